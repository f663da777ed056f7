/- Texts of this claim's proof: AlRng, AlGrd, WMf, WU1, WSs, WSp, WCp, WCk, WEx, WRr, WEy, WPq, WNa, WNb, WTm, WDx, WPu, WNc, WQa, WQb, WQc, WQf, WQg, WQh, WQi, WNe, WOa, WQd, WQj, WQk, WQl, WQm, WQp, WQn, WU7, WU2, WU3, WU4, WU5, WU6, WU8, WU9, WNf, WNd2, WNh, WU10, WU12, WU13, WQe, WXg, WU14, WI1, WNg, WNi, WNj, WOb, WOc, WOd, AlRdw, WI2, WV1, WSq, WV2, WV3, WNk, WXh, WXi, WOe, WV4, WV5, WFa, WFb, WGp, WGa, WV7, WXp, WV6, WV10, WV8, WV11, WV12, WV13, WV15, WCs, WV16, WPw3, WV17, WI3. No condition. -/
import Derived.Test.YtbdofbhocjfbfaaGreatDoorM3
import Derived.Test.YtbdofbhocjfbfaaGreatDoorM4
import Derived.Test.YtbdofbhocjfbfaaGreatDoorM7
import Derived.Test.YtbdofbhocjfbfaaGreatDoorM6
import Derived.Test.YtbdofbhocjfbfaaGreatDoorM5
section
namespace Go.AL
open Go Go.RowKit
theorem AWp.range1 {C:Cfg} {id i1 i2 t s n t2:Nat} {ty1 ty2 ty3 ty4 r1 r2 r3:TypeId} {p1 p2 p3:String} {a1 a2 a3:Array Edge} {body:Code} {Q:AQ} {ρ:Env} {L:AHeap}
  (m:Nat) (ls ks:List Nat) (I:Nat→List AV→AHeap→Prop) (hm:m≤9223372036854775807) (hs:get ρ s=ai 0) (hn:get ρ n=ai m) (hnk:n ∈ ks) (hsk:s ∉ ks) (hsl:s ∉ ls) (hts:t ≠ s) (htk:t ∉ ks) (h2k:t2 ∉ ks) (htl:t ∉ ls) (h2l:t2 ∉ ls)
  (h0:I 0 (ls.map (get ρ)) L)
  (round:∀k vs L',k<m→vs.length=ls.length→I k vs L'→AWp C body (rangeQ id s k ls ks ρ (I (k+1)) Q) ((s,ai k) :: lenv ls ks vs ρ) L')
  (done:∀vs L',vs.length=ls.length→I m vs L'→Q .normal ((s,ai m) :: lenv ls ks vs ρ) L') :
  AWp C (.block id (.loop (.seq (.region i1 #[⟨some t,.binOp .lss ty1 (.tmp s) (.tmp n) ty2,r1,p1,a1,none⟩] false) (.seq (.cond (.tmp t) .skip (.exit id)) (.seq body
   (.region i2 #[⟨some t2,.binOp .add ty3 (.tmp s) (.const (.int .i64 1)) ty4,r2,p2,a2,none⟩,⟨some s,.move (.tmp t2),r3,p3,a3,none⟩] false)))))) Q ρ L:=by
 have hnl:∀vs:List AV,vs.length=ls.length→get (lenv ls ks vs ρ) n=ai m:=fun vs _=>by
  unfold lenv
  have hin:n ∈ (keep ks ρ).map (·.1):=by simp [keep,hnk]
  rw[get_append,if_pos hin]
  rcases get_keep ks ρ n with e|e
  ·have:∀l:List Nat,n ∈ l→get (keep l ρ) n=get ρ n:=fun l=>by
    induction l with
    | nil=>intro h;cases h
    | cons x r ih =>
     intro h
     simp only[keep,List.map_cons,get]
     split
     ·rename_i e;rw[e]
     ·rename_i e;exact ih ((List.mem_cons.1 h).resolve_left e)
   rw[this ks hnk,hn]
  ·rw[e,hn]
 have hns:n ≠ s:=fun e=>hsk (e ▸ hnk)
 have dropT:∀(k:Nat) (vs:List AV) (x:AV) (i:Nat),get ((s,ai k) :: lenv ls ks vs ρ) i = .any∨get ((s,ai k) :: lenv ls ks vs ρ) i=get ((t,x) :: (s,ai k) :: lenv ls ks vs ρ) i:=fun k vs x i=>by
  by_cases hi:i=t
  ·subst hi
   refine .inl ?_
   simp only[get,if_neg hts,lenv]
   rw[get_append,if_neg (by simp [keep,htk])]
   have:∀(l:List Nat) (v:List AV),i ∉ l→get (l.zip v) i = .any:=fun l=>by
    induction l with
    | nil=>intro v _;rfl
    | cons x r ih =>
     intro v h
     cases v with
     | nil=>rfl
     | cons y v =>
      simp only[List.zip_cons_cons,get]
      rw[if_neg (by rintro rfl;exact h List.mem_cons_self)]
      exact ih v (fun hh=>h (List.mem_cons_of_mem _ hh))
   exact this ls vs htl
  ·exact .inr (by simp [get,hi])
 refine AWp.block (AWp.loop (s :: ls) ks (fun vs' L'=>∃(k:Nat) (vs:List AV),vs'=ai (k:Int) :: vs∧k≤m∧I k vs L') (fun vs' _=>match vs' with | .v (.int _ k) :: _=>m - k.toNat|_=>0)
  ⟨0,_,by simp [hs],Nat.zero_le _,h0⟩ ?_)
 rintro vs' L' hl ⟨k,vs,rfl,hk,hI⟩
 have hvl:vs.length=ls.length:=by simpa using hl
 -- the counter first
 refine AWp.st (ρ':=(s,ai k) :: lenv ls ks vs ρ) (L':=L') (fun w0 M A0 a w h=>st_forget h fun i => ?_) ?_
 ·by_cases hi:i=s
  ·subst hi
   refine .inr ?_
   simp only[get,if_true,lenv]
   rw[get_append,if_neg (by simp [keep,hsk])]
   simp [get]
  ·refine .inr ?_
   simp only[get,if_neg hi,lenv,List.zip_cons_cons]
   rw[get_append,get_append]
   split
   ·rfl
   ·simp [get,hi]
 have hget_s:get ((s,ai k) :: lenv ls ks vs ρ) s=ai k:=by simp [get]
 have hget_n:get ((s,ai k) :: lenv ls ks vs ρ) n=ai m:=by simp only[get,if_neg hns];exact hnl vs hvl
 refine AWp.seq (AWp.region ?_)
 simp only[aregion,astep,aop,aval,ev,hget_s,hget_n,w2,fo,aEq,aBin,thenQ,put]
 refine⟨by simp,?_⟩
 refine AWp.seq (AWp.cond (t:=decide ((k:Int)<m)) (by simp [ev,get]) (fun ht => ?_) (fun hf => ?_))
 ·have hlt:k<m:=by simpa using ht
  refine AWp.of ?_
  simp only[awp1,thenQ]
  refine AWp.st (ρ':=(s,ai k) :: lenv ls ks vs ρ) (L':=L') (fun w0 M A0 a w h=>st_forget h (dropT k vs _)) ?_
  refine AWp.seq ((round k vs L' hlt hvl hI).mono ?_)
  intro e ρ' L'' hq
  cases e with
  | normal =>
   obtain⟨g1,g2,L3,g3,g4⟩:=hq
   simp only[thenQ]
   refine AWp.region ?_
   have hi64:I64 ((k:Int)+1):=by unfold I64;omega
   simp only[aregion,astep,aop,aval,ev,g1,w2,fo,aEq,aBin,put,if_true,get]
   refine⟨⟨⟨trivial,trivial⟩,trivial,hi64⟩,trivial,?_⟩
   simp only[roundQ]
   have hks:ks.map (get ((s,ai ((k:Int)+1)) :: (t2,ai ((k:Int)+1)) :: ρ'))=ks.map (get ρ'):=List.map_congr_left fun j hj=>by
    simp only[get];rw[if_neg (by rintro rfl;exact hsk hj),if_neg (by rintro rfl;exact h2k hj)]
   have hls:ls.map (get ((s,ai ((k:Int)+1)) :: (t2,ai ((k:Int)+1)) :: ρ'))=ls.map (get ρ'):=List.map_congr_left fun j hj=>by
    simp only[get];rw[if_neg (by rintro rfl;exact hsl hj),if_neg (by rintro rfl;exact h2l hj)]
   refine⟨by rw[hks];exact g2,L3,g3,⟨k+1,_,?_,hlt,g4⟩,?_⟩
   ·rw[List.map_cons,hls]
    simp only[get,if_true]
    rfl
   ·simp only[List.map_cons,get,if_true]
    have:((k:Int)+1).toNat=k+1:=by omega
    simp only[this,Int.toNat_natCast]
    omega
  | exit id'=>simpa [thenQ,roundQ,blockQ,rangeQ] using hq
  | goto l=>exact hq
  | ret=>exact hq
  | panic c=>exact hq
  | outgrown=>exact hq
 ·have hkm:k=m:=by have:¬((k:Int)<m):=by simpa using hf
                   omega
  subst hkm
  refine AWp.st (ρ':=(s,ai k) :: lenv ls ks vs ρ) (L':=L') (fun w0 M A0 a w h=>st_forget h (dropT k vs _)) (AWp.of ?_)
  simp only[awp1,thenQ,roundQ,blockQ,if_true]
  exact done vs L' hvl hI
theorem AWp.range1' {C:Cfg} {id i1 i2 t s n t2:Nat} {ty1 ty2 ty3 ty4 r1 r2 r3:TypeId} {p1 p2 p3:String} {a1 a2 a3:Array Edge} {body:Code} {Q:AQ} {ρ:Env} {L:AHeap}
  (m:Nat) (ls ks:List Nat) (I:Nat→List AV→AHeap→Prop) (hm:m≤9223372036854775807) (hs:get ρ s=ai 0) (hn:get ρ n=ai m) (hok:rOk s n t t2 ls ks=true)
  (h0:I 0 (ls.map (get ρ)) L)
  (round:∀k vs L',k<m→vs.length=ls.length→I k vs L'→AWp C body (rangeQ id s k ls ks ρ (I (k+1)) Q) ((s,ai k) :: lenv ls ks vs ρ) L')
  (done:∀vs L',vs.length=ls.length→I m vs L'→Q .normal ((s,ai m) :: lenv ls ks vs ρ) L') :
  AWp C (.block id (.loop (.seq (.region i1 #[⟨some t,.binOp .lss ty1 (.tmp s) (.tmp n) ty2,r1,p1,a1,none⟩] false) (.seq (.cond (.tmp t) .skip (.exit id)) (.seq body
   (.region i2 #[⟨some t2,.binOp .add ty3 (.tmp s) (.const (.int .i64 1)) ty4,r2,p2,a2,none⟩,⟨some s,.move (.tmp t2),r3,p3,a3,none⟩] false)))))) Q ρ L:=by
 simp only[rOk,Bool.and_eq_true,Bool.not_eq_true',List.contains_eq_mem,decide_eq_false_iff_not,decide_eq_true_eq,bne_iff_ne,ne_eq] at hok
 obtain⟨⟨⟨⟨⟨⟨⟨h1,h2⟩,h3⟩,h4⟩,h5⟩,h6⟩,h7⟩,h8⟩:=hok
 exact AWp.range1 m ls ks I hm hs hn h1 h2 h3 h4 h5 h6 h7 h8 h0 round done
end Go.AL
end
section
namespace Go.AL
open Go Go.RowKit
def astepF (C:Cfg) (all:List Oper) (o:Oper) (ρ:Env) (L:AHeap) (K:ARes):Prop :=
 match o.guard with
 | none=>aop C o ρ L K
 | some (j,want)=>match gval all ρ j want with
  | some b=>(b=want→aop C o ρ L K)∧(b ≠ want→K (put ρ o.dst .any) L)
  | none=>False
def aregionF (C:Cfg) (all:List Oper):List Oper→Env→AHeap→ARes→Prop
 | [],ρ,L,K=>K ρ L
 | o :: rest,ρ,L,K=>astepF C all o ρ L fun ρ L=>aregionF C all rest ρ L K
def aregFK (C:Cfg) (all rest:List Oper) (K:ARes) (ρ:Env) (L:AHeap):Prop:=aregionF C all rest ρ L K
theorem aregionF_nil (C:Cfg) (all:List Oper) (ρ:Env) (L:AHeap) (K:ARes):aregionF C all [] ρ L K=K ρ L:=rfl
theorem aregionF_cons (C:Cfg) (all rest:List Oper) (o:Oper) (ρ:Env) (L:AHeap) (K:ARes):aregionF C all (o :: rest) ρ L K=astepF C all o ρ L (aregFK C all rest K):=rfl
theorem astepF_sound {C:Cfg} {ops:Array Oper} {i:Nat} {o:Oper} {ρ:Env} {L:AHeap} {K:ARes} (hi:ops[i]?=some o) (hok:operOk C.N o=true) (h:astepF C ops.toList o ρ L K):GOp C ops i ρ L K:=by
 have hd:=operOk_dst hok
 have hdef:=operOk_def hok
 unfold astepF at h
 split at h
 ·rename_i hg;exact AOp.gop hi hg (aop_sound hd hdef h)
 ·rename_i j want hg
  split at h
  ·rename_i b hv
   exact GOp.of_guard' hi hg hv hd (fun hb=>aop_sound hd hdef (h.1 hb)) h.2
  ·exact h.elim
theorem aregionF_sound {C:Cfg} {ops:Array Oper} {K:ARes} {n:Nat} {w0:World} {M A0:Foot} {Q:Exit→Act→World→Prop} (hQ:∀a w,post w0 M A0 C.N K a w→Q .normal a w) (hok:ops.toList.all (operOk C.N)=true) :
  ∀(l:List Oper) (k:Nat),(∀j,l[j]?=ops[k+j]?)→∀(ρ:Env) (L:AHeap) (a:Act) (w:World),aregionF C ops.toList l ρ L K→St w0 M A0 C.N ρ L a w→wpOpsIn (Fw C.r) n C.P ops Q (List.range' k l.length) a w
 | [],k,_,ρ,L,a,w,h,hs=>hQ a w ⟨ρ,L,h,hs⟩
 | o :: l,k,hl,ρ,L,a,w,h,hs=>by
  have h0:ops[k]?=some o:=by simpa using (hl 0).symm
  have ho:operOk C.N o=true:=List.all_eq_true.1 hok o (List.mem_of_getElem? (by simpa using h0))
  rw[List.length_cons,List.range'_succ,wpOpsIn_cons]
  refine wpOpIn_mono ?_ (astepF_sound h0 ho h n w0 M A0 a w Q hs)
  rintro a' w' ⟨ρ',L',h1,h2⟩
  exact aregionF_sound hQ hok l (k+1) (fun j=>by have:=hl (j+1);simpa [Nat.add_assoc,Nat.add_comm 1 j] using this) ρ' L' a' w' h1 h2
theorem AWp.regionF {C:Cfg} {id:Nat} {ops:Array Oper} {Q:AQ} {ρ:Env} {L:AHeap} (h:aregionF C ops.toList ops.toList ρ L (Q .normal)):AWp C (.region id ops false) Q ρ L:=fun hok n w0 M A0 a w hs=>by
 refine wpIn_region ?_
 have:=aregionF_sound (C:=C) (ops:=ops) (K:=Q .normal) (n:=n) (Q:=cq C w0 M A0 Q) (fun a w ⟨ρ',L',h1,h2⟩=>⟨ρ',L',h1,h2⟩) hok ops.toList 0 (by simp) ρ L a w h hs
 rwa [Array.length_toList,← List.range_eq_range'] at this
attribute [go_sem] aregionF_nil aregionF_cons astepF aregFK
end Go.AL
end
section
namespace Go.AL
open Go Go.RowKit
set_option maxRecDepth 4000
section
variable {ps:List Pr} {ts:List Pd}
end
section
variable {ps:List Pr} {c:List Int}
variable {j:List Int} {ch:Int→Int→Int}
end
section
variable {ps:List Pr} {c:List Int}
end
def ordL (a b:List Int):Prop:=a.sum<b.sum∨(a.sum=b.sum∧cmpL a b<0)
section
variable {A:List (List Int)} (hA:A.Pairwise ordL)
include hA
end
section
variable {ps:List Pr} (hv:validF ps=true)
include hv
end
def stepG (a b:List Int):Nat→Option Int
 | 0=>some (-1)
 | k+1=>match stepG a b k with
  | none=>none
  | some p=>if cAt a k=cAt b k then some p else if 0≤p∨¬cAt b k=cAt a k+1 then none else some k
def stepF (a b:List Int):Int:=if a.length=b.length then (stepG a b a.length).getD (-1) else -1
def zeroC (ps:List Pr):List Int:=List.replicate ps.length 0
def chnF (ps:List Pr):List Int→List (List Int)→Bool
 | _,[]=>true
 | a,b :: r=>(isF ps b && decide (0≤stepF a b)) && chnF ps b r
section
variable {ps:List Pr} (hv:validF ps=true) {l:List (List Int)} (hl:l=cutsF ps)
include hv hl
end
def ptF (ps:List Pr) (p i:Nat):List Int:=closeF ps (stC ps.length p ((i:Int)+1))
section
variable {ps:List Pr} (hv:validF ps=true) {p:Nat} (hp:p<ps.length) {i:Nat} (hi:i<ps[p].evs.length)
include hv hp hi
end
end Go.AL
end
section
namespace Go.AL
open Go Go.RowKit
theorem fits_str (s:ByteArray):(KK.sc .str).fits (.string s)=true:=rfl
attribute [go_sem] fits_str
end Go.AL
end
section
namespace Go.AL
open Go Go.RowKit
set_option maxRecDepth 4000
section
variable {ps:List Pr} (hva:PC Proofs.Tryz.prog 110 [aTr ps] (ab false))
include hva
end
theorem MCalls.pc {P:Program} {f:FuncId} {args:List AV} {K:AV→AHeap→Prop} {r0:AV} (h:MCalls P f args [] K) (hk:∀r L,K r L→Vw L r r0):PC P f args r0 :=
 ⟨h.1,fun n w A vs h1 h2=>(h.2 n w A vs h1 h2).mono fun e w' hp=>by
  obtain⟨v,r,L',A',e1,hK,hf,hA,hL,hkk,hr⟩:=hp
  refine⟨v,r0,[],fun b=>A' b∨keysOf L' b,e1,⟨rfl,rfl⟩,hf,fun b hb => ?_,hL.viewed (Lf:=L') (Lk:=[]) (by simp) .nil,fun x hx=>absurd hx (by simp),hL.view (Lf:=L') (Lk:=[]) (by simp) (hk r L' hK) hr⟩
  rcases hb with hb|⟨x,hx,rfl⟩
  ·exact hA b hb
  ·rcases hkk x hx with h|h
   ·exact .inr (.inl h)
   ·exact .inr (.inr h)⟩
def copK:Pd→AV→AHeap→Prop
 | .mk k n p q s l,r,L=>∃v,r = .agg [ai k,ai n,ai p,ai q,astr s,v]∧AppSt 24 6 (l.map aPd) v L
theorem copK_vw {t:Pd} {r:AV} {L:AHeap} (h:copK t r L):Vw L r (aPd t):=by
 obtain⟨k,n,p,q,s,l⟩:=t
 obtain⟨v,rfl,hA⟩:=h
 rw[aPd_mk]
 have hv:=hA.vw []
 rw[List.append_nil] at hv
 exact .mkAgg (Vws.cons (.refl _) (Vws.cons (.refl _) (Vws.cons (.refl _) (Vws.cons (.refl _) (Vws.cons (.refl _) (Vws.cons hv .nil))))))
theorem classify_copiedM (t:Pd):szF t≤1000000→MCalls Proofs.Tryz.prog 66 [aPd t] [] (copK t):=by
 induction t using Pd.ind with
 | _ k n p q s l ih =>
 intro hz
 have hsz:szF (.mk k n p q s l)=szL l+1:=by rw[szF]
 have hll:=szL_len l
 have hK:copK (.mk k n p q s l)=fun r L=>∃v,r = .agg [ai k,ai n,ai p,ai q,astr s,v]∧AppSt 24 6 (l.map aPd) v L:=rfl
 rw[hK]
 clear hK
 refine MCalls.enter' 24 [.cell 2 24] [5,19] Proofs.Tryz.func66 rfl rfl rfl rfl rfl (by simp) (AWp.of ?_);simp only[go_sem]
 intro b1 b2 hlt
 have n1:¬b1=b2:=by omega
 have n2:¬b2=b1:=by omega
 refine W2 n1 n2 ?_
 refine AWp.range' l.length [] [1,2,9,10] (fun i vs L=>∃v Ln,L=Ln ++ [(b2,ABlk.row 24 6 [aPd0] 1),(b1,ABlk.row 24 6 [.agg [ai k,ai n,ai p,ai q,astr s,v]] 1)]∧AppSt 24 6 ((l.take i).map aPd) v Ln∧∀x ∈ Ln,x.1 ≠ b1∧x.1 ≠ b2) (by omega) rfl rfl rfl ⟨anil,[],rfl,.nil,by simp⟩ ?_ ?_
 ·rintro i vs L hil - ⟨v,Ln,rfl,hA,hne⟩
  simp only[go_sem]
  have hgi:=getD_map (f:=aPd) hil
  have hzi:=szL_mem (List.getElem_mem hil)
  have hch:PC Proofs.Tryz.prog 66 [aPd l[i]] (aPd l[i]):=(ih l[i] (List.getElem_mem hil) (by omega)).pc fun r L h=>copK_vw h
  have hsu:(l.take (i+1)).map aPd=(l.take i).map aPd ++ [aPd l[i]]:=by
   rw[List.take_succ_eq_append_getElem hil,List.map_append];rfl
  have hyl:((l.take i).map aPd).length≤1000000:=by simp;omega
  generalize (l.take i).map aPd=ys at *
  generalize l[i]=x at *
  obtain⟨k2,o2,p2,q2,s2,l2⟩:=x
  simp only[aPd_mk] at hgi hch hsu
  rcases hA.inv with ⟨e1,rfl,rfl⟩|⟨b,cap,rfl,rfl⟩
  ·refine W1 hgi ?_
   intro b7 g1 g2
   have n7:¬b1=b7:=by omega
   have n8:¬b7=b1:=by omega
   refine Sd ?_
   repeat(first|(with_reducible refine AWp.seq ?_)|(with_reducible refine AWp.block ?_))
   refine AWp.mix mixed [0,2,3] (.step 1 (.step 4 (.step 5 (.step 6 (.step 7 .done .done) .done) .done) .done) (.step 4 (.step 1 (.step 5 (.step 6 (.step 7 .done .done) .done) .done) .done) .done)) (by kernel_rfl) ?_;simp only[go_sem,hgi,n1,n2,n7,n8]
   refine Sd ?_
   refine GCall.use (.agg [ai k2,ai o2,ai p2,ai q2,astr s2,.sl 6 (l2.map aPd)]) (fun _=>⟨At,(hch).val.use ⟨rfl,rfl⟩⟩) ?_;simp only[go_sem,n1,n2]
   repeat' (first|(with_reducible refine And.intro ?_ ?_)|(with_reducible intro _))
   all_goals first|omega|skip
   all_goals
    rename_i b' cap' f1 f2 f3
    have n5:¬b1=b':=by omega
    have n6:¬b2=b':=by omega
    simp only[go_sem,n1,n2,n5,n6]
    refine Sd ?_
    refine W4 n1 n2 n5 n6 ?_
    refine⟨_,List.Sublist.refl _,_,[(b',.row 24 6 [_] cap')],rfl,?_,?_⟩
    ·rw[hsu,e1];exact .row _ [_] _
    ·intro p hp;simp at hp;subst hp;exact⟨fun e=>n5 e.symm,fun e=>n6 e.symm⟩
  ·have m1:¬b=b1:=(hne (b,_) List.mem_cons_self).1
   have m2:¬b=b2:=(hne (b,_) List.mem_cons_self).2
   have m3:¬b1=b:=fun e=>m1 e.symm
   have m4:¬b2=b:=fun e=>m2 e.symm
   refine W1 hgi ?_
   intro b7 g0 g1 g2
   have n7:¬b1=b7:=by omega
   have n8:¬b7=b1:=by omega
   have n9:¬b=b7:=by omega
   have n10:¬b7=b:=by omega
   refine Sd ?_
   repeat(first|(with_reducible refine AWp.seq ?_)|(with_reducible refine AWp.block ?_))
   refine AWp.mix mixed [0,2,3] (.step 1 (.step 4 (.step 5 (.step 6 (.step 7 .done .done) .done) .done) .done) (.step 4 (.step 1 (.step 5 (.step 6 (.step 7 .done .done) .done) .done) .done) .done)) (by kernel_rfl) ?_;simp only[go_sem,hgi,n1,n2,m1,m2,m3,m4,n7,n8,n9,n10]
   refine Sd ?_
   refine GCall.use (.agg [ai k2,ai o2,ai p2,ai q2,astr s2,.sl 6 (l2.map aPd)]) (fun _=>⟨At,(hch).val.use ⟨rfl,rfl⟩⟩) ?_;simp only[go_sem,n1,n2,m1,m2,m3,m4]
   repeat' (first|(with_reducible refine And.intro ?_ ?_)|(with_reducible intro _))
   all_goals first|omega|skip
   all_goals
    rename_i b' cap' n5 n6 f3
    simp only[go_sem,n1,n2,n5,n6]
    refine Sd ?_
    refine W4 n1 n2 n5 n6 ?_
    refine⟨_,List.Sublist.refl _,_,[(b',.row 24 6 (ys ++ [_]) cap')],rfl,?_,?_⟩
    ·rw[hsu]
     have:=AppSt.row (t:=24) (k:=6) b' (ys ++ [.agg [ai k2,ai o2,ai p2,ai q2,astr s2,.sl 6 (l2.map aPd)]]) cap'
     simpa using this
    ·intro p hp;simp at hp;subst hp;exact⟨fun e=>n6 e.symm,fun e=>n5 e.symm⟩
 ·rintro vs L - ⟨v,Ln,rfl,hA,hne⟩
  simp only[go_sem]
  rw[List.take_length] at hA
  generalize l.map aPd=ys at *
  rcases hA.inv with ⟨e1,rfl,rfl⟩|⟨b,cap,rfl,rfl⟩
  ·repeat(first|((with_reducible refine AWp.ofC ?_ ?_);exact rfl;simp only[go_sem,n1,n2,aPd0])|((with_reducible refine an ?_ ?_);exact Au))
   refine ret_sub [] (List.nil_sublist _) ?_
   simp only[go_sem,n1,n2]
   exact⟨_,rfl,by rw[e1];exact .nil⟩
  ·have m1:¬b1=b:=fun e=>(hne (b,_) List.mem_cons_self).1 e.symm
   have m2:¬b2=b:=fun e=>(hne (b,_) List.mem_cons_self).2 e.symm
   repeat(first|((with_reducible refine AWp.ofC ?_ ?_);exact rfl;simp only[go_sem,n1,n2,m1,m2,aPd0])|((with_reducible refine an ?_ ?_);exact Au))
   refine ret_sub [(b,.row 24 6 ys cap)] (List.Sublist.cons_cons _ (List.nil_sublist _)) ?_
   simp only[go_sem,n1,n2,m1,m2]
   exact⟨_,rfl,.row b ys cap⟩
def oppL:List (Int × Int)→Int→Int
 | [],k=>k
 | (a,b) :: r,k=>if k=a then b else if k=b then a else oppL r k
def prsO:List (Int × Int):=[(13,14),(16,17),(9,10),(11,12),(18,21),(19,20)]
def oppF (k:Int):Int:=oppL prsO k
def aPr2 (p:Int × Int):AV:=.agg [ai p.1,ai p.2]
theorem oppL_drop {l:List (Int × Int)} {i:Nat} (hi:i<l.length) (k:Int):oppL (l.drop i) k=if k=l[i].1 then l[i].2 else if k=l[i].2 then l[i].1 else oppL (l.drop (i+1)) k:=by
 rw[List.drop_eq_getElem_cons hi]
 rfl
theorem prsO_len:prsO.length=6:=rfl
theorem classify_opposite (k:Int):PC Proofs.Tryz.prog 67 [ai k] (ai (oppF k)):=by
 have hl6:=prsO_len
 have hd0:oppL (prsO.drop 0) k=oppF k:=rfl
 have hd6:oppL (prsO.drop 6) k=k:=rfl
 have hdr:=fun i (hi:i<prsO.length)=>oppL_drop hi k
 have hgx:=fun i (hi:i<prsO.length)=>getD_map (f:=aPr2) hi
 have hgc:∀i (hi:i<prsO.length),[AV.agg [ai 13,ai 14],.agg [ai 16,ai 17],.agg [ai 9,ai 10],.agg [ai 11,ai 12],.agg [ai 18,ai 21],.agg [ai 19,ai 20]].getD i .any=aPr2 prsO[i]:=hgx
 clear hgx
 generalize oppF k=r at *
 refine PC.enter 34 [.tmp 2] [5,12] Proofs.Tryz.func67 rfl rfl rfl rfl rfl (by simp) (AWp.of ?_);simp only[go_sem]
 refine Wk ?_
 refine AWp.range' 6 [] [0,13,14] (fun i vs L=>L=[]∧oppL (prsO.drop i) k=r) (by omega) rfl rfl rfl ⟨rfl,hd0⟩ ?_ ?_
 ·rintro i vs L hi - ⟨rfl,hI⟩
  have hip:i<prsO.length:=by omega
  have hg:=hgc i hip
  have hd:=hdr i hip
  rw[hI] at hd
  clear hdr hgc
  generalize prsO[i]=p at *
  obtain⟨x,y⟩:=p
  unfold aPr2 at hg
  simp only[go_sem] at hd hg ⊢
  repeat(first|((with_reducible refine AWp.ofC ?_ ?_);exact rfl;simp only[go_sem,hg,List.flatten_cons,List.flatten_nil,List.cons_append,List.nil_append])|((with_reducible refine an ?_ ?_);exact Au))
  intro b5
  refine W1 hg ?_
  refine⟨fun h1 => ?_,fun h1 => ?_⟩
  ·refine W1 hg ?_
   refine ret_eq ?_;simp only[go_sem]
   rw[hd,if_pos h1]
  ·refine W1 hg ?_
   refine⟨fun h2 => ?_,fun h2 => ?_⟩
   ·refine W1 hg ?_
    refine ret_eq ?_;simp only[go_sem]
    rw[hd,if_neg h1,if_pos h2]
   ·refine W1 hg ?_
    exact⟨_,List.Sublist.refl _,rfl,by rw[hd,if_neg h1,if_neg h2]⟩
 ·rintro vs L - ⟨rfl,hI⟩
  rw[hd6] at hI
  simp only[go_sem]
  refine Wk ?_
  refine ret_eq ?_;simp only[go_sem]
  rw[hI]
section
variable {ps:List Pr} (hv:validF ps=true) {x:Eid} {D d:List Int} {Q:List Eid} {y:Eid}
end
theorem MVal.nd {P:Program} {g:AV} {args:List AV} {L:AHeap} {K:AV→AHeap→Prop} (h:MVal P g args L K):MVal P g args L fun r L'=>(L'.map (·.1)).Nodup∧K r L' :=
 fun n w A gv vs h1 h2 h3=>(h n w A gv vs h1 h2 h3).mono fun _ _ ⟨v,r,L',A',e1,hK,hf,hA,hL,hr⟩=>⟨v,r,L',A',e1,⟨hL.nodup,hK⟩,hf,hA,hL,hr⟩
end Go.AL
end
section
namespace Go.AL
open Go Go.RowKit
def mixW (ops:Array Oper) (qs:List Nat):Bool :=
 ascend qs && qs.all (fun q=>decide (q<ops.size)) &&
 (List.range ops.size).all fun i=>match ops[i]? with
  | some o=>(predsOf o).all (fun p=>decide (p<i)) &&
    qs.all (fun q=>match dstOf ops q with
     | some d=>(!(o.looksAt ops).contains d || (predsOf o).contains q) && (i == q || !(o.dst == some d))
     | none=>true)
  | none=>true
section
variable {C:Cfg} {ops:Array Oper} {L:AHeap}
theorem mixW_at {qs:List Nat} (h:mixW ops qs=true) {i:Nat} {o:Oper} (hi:ops[i]?=some o) :
  (∀p ∈ predsOf o,p<i)∧(∀q ∈ qs,∀d,dstOf ops q=some d→(d ∈ o.looksAt ops→q ∈ predsOf o)∧(i ≠ q→o.dst ≠ some d)):=by
 unfold mixW at h
 simp only[Bool.and_eq_true,List.all_eq_true] at h
 have hlt:i<ops.size:=(Array.getElem?_eq_some_iff.1 hi).1
 have h3:=h.2 i (List.mem_range.2 hlt)
 rw[hi] at h3
 simp only[Bool.and_eq_true,List.all_eq_true,decide_eq_true_eq] at h3
 refine⟨h3.1,fun q hq d hd => ?_⟩
 have:=h3.2 q hq
 rw[hd] at this
 simp only[Bool.and_eq_true,Bool.or_eq_true,Bool.not_eq_true',List.contains_eq_mem,decide_eq_true_eq,decide_eq_false_iff_not,beq_iff_eq,beq_eq_false_iff_ne,ne_eq] at this
 exact⟨fun hm=>this.1.resolve_left (fun hn=>hn hm),fun hne=>this.2.resolve_left hne⟩
theorem mixW_asc {qs:List Nat} (h:mixW ops qs=true):ascend qs=true∧∀q ∈ qs,q<ops.size:=by
 unfold mixW at h
 simp only[Bool.and_eq_true,List.all_eq_true,decide_eq_true_eq] at h
 exact h.1
theorem aqWRun_facts {qs0:List Nat} (hm:mixW ops qs0=true) (hok:ops.toList.all (operOk C.N)=true):∀(qs:List Nat) (ρ:Env) (K:Env→Prop),(∀q ∈ qs,q ∈ qs0)→ascend qs=true→aqLRun C ops.toList L qs K ρ →
  ∃ρq,K ρq∧(∀q ∈ qs,QFactL C ops ρq L q)∧∀s,(∀q ∈ qs,dstOf ops q ≠ some s)→get ρq s=get ρ s
 | [],ρ,K,_,_,h=>⟨ρ,h,fun q hq=>(by cases hq),fun _ _=>rfl⟩
 | i :: r,ρ,K,hsub,hasc,h=>by
  obtain⟨hlt,hasc'⟩:=ascend_cons hasc
  simp only[aqLRun] at h
  cases ho:ops.toList[i]? with
  | none=>rw[ho] at h;exact h.elim
  | some o =>
   rw[ho] at h
   have ho':ops[i]?=some o:=by simpa using ho
   obtain⟨x,hy,hK⟩:=aqL_yields ho' (List.all_eq_true.1 hok o (List.mem_of_getElem? ho)) h
   obtain⟨ρq,h1,h2,h3⟩:=aqWRun_facts hm hok r _ K (fun q hq=>hsub q (List.mem_cons_of_mem _ hq)) hasc' hK
   obtain⟨p1,p2⟩:=mixW_at hm ho'
   have hself:∀d,o.dst=some d→d ∉ o.looksAt ops:=fun d hd hm'=>by
    have:=(p2 i (hsub i List.mem_cons_self) d (by simp [dstOf,ho',hd])).1 hm'
    exact absurd (p1 i this) (Nat.lt_irrefl i)
   refine⟨ρq,h1,fun q hq => ?_,fun s hs => ?_⟩
   ·rcases List.mem_cons.1 hq with rfl|hq
    ·refine⟨o,x,ho',hy.of_agree fun t ht => ?_,fun d hd => ?_⟩
     ·rw[h3 t fun q' hq' he => ?_,get_put,if_neg fun he=>hself t he ht]
      have:=(p2 q' (hsub q' (List.mem_cons_of_mem _ hq')) t he).1 ht
      have:=p1 q' this;have:=hlt q' hq';omega
     ·rw[h3 d fun q' hq' he => ?_,get_put,if_pos hd]
      exact(p2 q' (hsub q' (List.mem_cons_of_mem _ hq')) d he).2 (by have:=hlt q' hq';omega) hd
    ·exact h2 q hq
   ·rw[h3 s fun q hq=>hs q (List.mem_cons_of_mem _ hq),get_put,if_neg]
    have:=hs i List.mem_cons_self
    simpa [dstOf,ho'] using this
end
def tailOk (ops:Array Oper) (qs:List Nat) (z:Nat):Bool :=
 mixW ops qs && !(qs.contains z) && ((List.range ops.size).all fun i=>qs.contains i || i == z) &&
 (match ops[z]? with|some o=>o.guard.isNone && qs.all (fun q=>(predsOf o).contains q)|none=>false)
section
variable {C:Cfg} {ops:Array Oper} {L:AHeap}
theorem rdw_sound {qs:List Nat} {z:Nat} {oz:Oper} (hm:mixW ops qs=true) (hall:∀i,i<ops.size→i ∈ qs∨i=z) (hz:z ∉ qs) (hoz:ops[z]?=some oz) (hpz:∀q ∈ qs,q ∈ predsOf oz)
  {K:ARes} {n:Nat} {w0:World} {M A0:Foot} {Q:Exit→Act→World→Prop} (hQ:∀a w,post w0 M A0 C.N K a w→Q .normal a w) {ρT:Env} (hK:GOp C ops z ρT L K) :
  ∀(f:Nat) (listed:Array Bool) (a:Act) (w:World),listed.size=ops.size→listed.getD z true=false →
   (∀l:List Nat,l.Nodup→(∀i ∈ l,listed.getD i true=false)→l.length≤f) →
   (∀q ∈ qs,listed.getD q true=false→QFactL C ops ρT L q)→St w0 M A0 C.N (mask ops qs listed ρT) L a w →
   wpAnyIn (Fw C.r) n C.P .any ops Q f listed a w:=by
 have allOf:∀listed:Array Bool,listed.size=ops.size→Region.ready .any ops listed=[]→∀i,listed.getD i true=true:=by
  intro listed hsz hr i
  induction i using Nat.strongRecOn with
  | _ i ih =>
   cases hi:listed.getD i true with
   | true=>rfl
   | false =>
    exfalso
    have hlt:i<ops.size:=by
     rw[← hsz]
     by_cases h:i<listed.size
     ·exact h
     ·simp [Array.getD,h] at hi
    have ho:ops[i]?=some ops[i]:=Array.getElem?_eq_getElem hlt
    have:i ∈ Region.ready .any ops listed:=mem_ready.2 ⟨hi,_,ho,fun e he hb=>by
     have hp:=(mixW_at hm ho).1 e.on (List.mem_map.2 ⟨e,List.mem_filter.2 ⟨by simpa using he,hb⟩,rfl⟩)
     exact getD_ft (by omega) (ih _ hp)⟩
    rw[hr] at this;cases this
 intro f
 induction f with
 | zero =>
  intro listed a w hsz hlz hcnt hfact hs
  exfalso
  have:=hcnt [z] (by simp) (fun i hi=>by simp at hi;subst hi;exact hlz)
  simp at this
 | succ f ih =>
  intro listed a w hsz hlz hcnt hfact hs
  refine⟨fun hr=>(by have:=allOf listed hsz hr z;rw[hlz] at this;cases this),fun i hi => ?_⟩
  obtain⟨hun,o,ho,hpre⟩:=mem_ready.1 hi
  have hlt:i<ops.size:=(Array.getElem?_eq_some_iff.1 ho).1
  by_cases ez:i=z
  ·subst ez
   rw[ho] at hoz;cases hoz
   have hql:∀q ∈ qs,listed.getD q true=true:=fun q hq=>by
    obtain⟨e,he,rfl⟩:=List.mem_map.1 (hpz q hq)
    obtain⟨he1,he2⟩:=List.mem_filter.1 he
    exact getD_tf (hpre e (by simpa using he1) he2)
   have hs':St w0 M A0 C.N ρT L a w:=st_forget hs fun s => .inr (mask_out fun q hq hl _=>by rw[hql q hq] at hl;cases hl).symm
   refine wpOpIn_mono ?_ (hK n w0 M A0 a w Q hs')
   intro a' w' hp
   have hready:Region.ready .any ops (listed.setIfInBounds i true)=[]:=by
    cases hh:Region.ready .any ops (listed.setIfInBounds i true) with
    | nil=>rfl
    | cons j r =>
     exfalso
     have hj:j ∈ Region.ready .any ops (listed.setIfInBounds i true):=by rw[hh];exact List.mem_cons_self
     obtain⟨h1,oj,hoj,_⟩:=mem_ready.1 hj
     have hjlt:j<ops.size:=(Array.getElem?_eq_some_iff.1 hoj).1
     by_cases e:j=i
     ·subst e
      simp [Array.getD,show j<listed.size by omega] at h1
     ·rw[getD_set_ne true (Ne.symm e)] at h1
      rw[hql j ((hall j hjlt).resolve_right e)] at h1;cases h1
   cases f with
   | zero=>exact⟨hready,hQ _ _ hp⟩
   | succ f=>exact⟨fun _=>hQ _ _ hp,fun j hj=>by rw[hready] at hj;cases hj⟩
  ·have hq:=(hall i hlt).resolve_right ez
   obtain⟨m1,m2⟩:=mixW_at hm ho
   have hlooks:∀t ∈ o.looksAt ops,get (mask ops qs listed ρT) t=get ρT t:=fun t ht=>mask_out fun q hq hl hd=>by
    have hp:=(m2 q hq t hd).1 ht
    obtain⟨e,he,rfl⟩:=List.mem_map.1 hp
    obtain⟨he1,he2⟩:=List.mem_filter.1 he
    have:=getD_tf (hpre e (by simpa using he1) he2)
    rw[hl] at this;cases this
   have hcnt':∀l:List Nat,l.Nodup→(∀j ∈ l,(listed.setIfInBounds i true).getD j true=false)→l.length≤f:=fun l hn hl=>by
    have hil:i ∉ l:=fun h=>by
     have:=hl i h
     simp [Array.getD,show i<listed.size by omega] at this
    have:=hcnt (i :: l) (List.nodup_cons.2 ⟨hil,hn⟩) (fun j hj=>by
     rcases List.mem_cons.1 hj with rfl|hj
     ·exact hun
     ·have:=hl j hj
      have hne:i ≠ j:=fun e=>hil (e ▸ hj)
      rwa [getD_set_ne true hne] at this)
    simp at this;omega
   have hset:∀j,j ≠ i→(listed.setIfInBounds i true).getD j true=listed.getD j true:=fun j hj=>getD_set_ne true (Ne.symm hj)
   obtain⟨o',x,ho',hy,hgx⟩:=hfact i hq hun
   rw[ho] at ho';cases ho'
   refine wpOpIn_mono ?_ (hy _ hlooks n w0 M A0 a w Q hs)
   rintro a' w' ⟨ρ2,L2,⟨rfl,rfl⟩,hs2⟩
   refine ih _ a' w' (by simpa using hsz) (by rw[hset z (Ne.symm ez)];exact hlz) hcnt' (fun q hq' hl=>hfact q hq' (by
    by_cases e:q=i
    ·subst e;exact hun
    ·rwa [hset q e] at hl)) (st_forget hs2 fun s => ?_)
   rcases mask_or (ops:=ops) qs (listed.setIfInBounds i true) ρT s with ⟨h1,_⟩|⟨h1,h2⟩
   ·exact .inl h1
   ·refine .inr ?_
    rw[h1,get_put]
    by_cases hd:o.dst=some s
    ·rw[if_pos hd];exact hgx s hd
    ·rw[if_neg hd,mask_out fun q hq' hl hds => ?_]
     by_cases e:q=i
     ·subst e;exact hd (by simpa [dstOf,ho] using hds)
     ·exact h2 q hq' (by rw[hset q e];exact hl) hds
end
def rdwK (C:Cfg) (all:List Oper) (z:Nat) (K:ARes) (L:AHeap) (ρ:Env):Prop:=match all[z]? with|some o=>aopX C o ρ L K|none=>False
theorem AWp.readW {C:Cfg} {id:Nat} {ops:Array Oper} {Q:AQ} {ρ:Env} {L:AHeap} (hmx:C.P.follows .mixedOrders=true) (qs:List Nat) (z:Nat) (hT:tailOk ops qs z=true) (h:aqLRun C ops.toList L qs (rdwK C ops.toList z (Q .normal) L) ρ) :
  AWp C (.region id ops true) Q ρ L:=fun hok n w0 M A0 a w hs=>by
 simp only[tailOk,Bool.and_eq_true,List.all_eq_true,Bool.not_eq_true',Bool.or_eq_true,beq_iff_eq,List.contains_eq_mem,decide_eq_true_eq,decide_eq_false_iff_not] at hT
 obtain⟨⟨⟨hm,hz⟩,hal⟩,hzo⟩:=hT
 have hasc:=mixW_asc hm
 obtain⟨ρq,hK,hF,hother⟩  :=aqWRun_facts hm hok qs ρ _ (fun _ h=>h) hasc.1 h
 refine wpIn_region_any hmx ?_
 obtain⟨A,ds,hs'⟩:=st_iff.1 hs
 cases hoz:ops[z]? with
 | none=>rw[hoz] at hzo;cases hzo
 | some oz =>
  rw[hoz] at hzo
  simp only[Bool.and_eq_true,List.all_eq_true,List.contains_eq_mem,decide_eq_true_eq,Option.isNone_iff_eq_none] at hzo
  have hzl:ops.toList[z]?=some oz:=by simpa using hoz
  unfold rdwK at hK
  rw[hzl] at hK
  have hoo:=List.all_eq_true.1 hok oz (List.mem_of_getElem? hzl)
  have hzlt:z<ops.size:=(Array.getElem?_eq_some_iff.1 hoz).1
  have hgo:GOp C ops z ρq L (Q .normal):=AOp.gop hoz hzo.1 (aop_sound (operOk_dst hoo) (operOk_def hoo) (aopX_aop hK))
  refine rdw_sound hm (fun i hi=>hal i (List.mem_range.2 hi)) hz hoz (fun q hq=>hzo.2 q hq) (K:=Q .normal) (fun a w ⟨ρ',L',h1,h2⟩=>⟨ρ',L',h1,h2⟩) hgo ops.size _ a _ (by simp) (by simp [Array.getD,hzlt]) ?_ (fun q hq _=>hF q hq) (st_forget (st_iff.2 ⟨A,ds,hs'.drew⟩) fun s => ?_)
  ·intro l hn hl
   have:=List.Nodup.length_le_of_subset hn (l₂:=List.range ops.size) (fun i hi=>by
    have:=hl i hi
    rw[List.mem_range]
    by_cases h:i<ops.size
    ·exact h
    ·simp [Array.getD,h] at this)
   simpa using this
  ·rcases mask_or (ops:=ops) qs (Array.replicate ops.size false) ρq s with ⟨h1,_⟩|⟨h1,h2⟩
   ·exact .inl h1
   ·refine .inr ?_
    rw[h1]
    exact hother s fun q hq hd=>h2 q hq (by simp [Array.getD,hasc.2 q hq]) hd
attribute [go_sem] rdwK
end Go.AL
end
section
namespace Go.AL
open Go Go.RowKit
set_option maxRecDepth 4000
mutual
def normF:Pd→Bool→Pd
 | .mk k n p q s l,b=>if k=15 then hdN l (!b) else .mk (if b then oppF k else k) n p q s (if 16≤k∧k≤21 then nrmL l b else if b=true∧(k=11∨k=12) then l.reverse else l)
def hdN:List Pd→Bool→Pd
 | [],_ => .mk 0 0 0 0 ByteArray.empty []
 | x :: _,b=>normF x b
def nrmL:List Pd→Bool→List Pd
 | [],_=>[]
 | x :: r,b=>normF x b :: nrmL r b
end
theorem nrmL_map (b:Bool):∀l,nrmL l b=l.map fun x=>normF x b
 | []=>by rw[nrmL];rfl
 | x :: r=>by rw[nrmL,nrmL_map b r];rfl
theorem normF_mk (k n p q:Int) (s:ByteArray) (l:List Pd) (b:Bool):normF (.mk k n p q s l) b=if k=15 then hdN l (!b) else .mk (if b then oppF k else k) n p q s (if 16≤k∧k≤21 then l.map (fun x=>normF x b) else if b=true∧(k=11∨k=12) then l.reverse else l):=by
 rw[normF,nrmL_map]
theorem hdN_one (x:Pd) (b:Bool):hdN [x] b=normF x b:=by rw[hdN]
theorem locB_len {k n p q:Int} {s:ByteArray} {l:List Pd} (h:locB (.mk k n p q s l)=true):partsF k=l.length:=by
 unfold locB at h
 simp only[Bool.and_eq_true,decide_eq_true_eq] at h
 exact h.1.1
theorem len_one {l:List Pd} (h:l.length=1):∃x,l=[x]:=List.length_eq_one_iff.1 h
theorem len_two {l:List Pd} (h:l.length=2):∃x y,l=[x,y]:=by
 match l,h with
 | [x,y],_=>exact⟨x,y,rfl⟩
theorem preds_Reverse2 (b cap:Nat) (x y:Pd):MCalls Proofs.Tryz.prog 68 [.ls b 6 0 2 cap] [(b,.row 24 6 [aPd x,aPd y] cap)] (fun _ L=>L=[(b,.row 24 6 [aPd y,aPd x] cap)]):=by
 obtain⟨k1,n1,p1,q1,s1,l1⟩:=x
 obtain⟨k2,n2,p2,q2,s2,l2⟩:=y
 simp only[aPd_mk]
 refine MCalls.enter' 28 [] [] Proofs.Tryz.func68 rfl rfl rfl rfl rfl (by simp) (AWp.of ?_);simp only[go_sem]
 refine Wk ?_
 generalize hx:AV.agg [ai k1,ai n1,ai p1,ai q1,astr s1,.sl 6 (l1.map aPd)]=x at *
 generalize hy:AV.agg [ai k2,ai n2,ai p2,ai q2,astr s2,.sl 6 (l2.map aPd)]=y at *
 refine AWp.block (AWp.loopN [2,3] [0] (fun m vs L=>(m=1∧vs=[ai 0,ai 1]∧L=[(b,.row 24 6 [x,y] cap)])∨(m=0∧vs=[ai 1,ai 0]∧L=[(b,.row 24 6 [y,x] cap)])) 1 (.inl ⟨rfl,rfl,rfl⟩) ?_)
 rintro m vs L - (⟨rfl,rfl,rfl⟩|⟨rfl,rfl,rfl⟩)
 ·subst hx
  subst hy
  simp only[go_sem]
  refine Wk ?_
  refine⟨fun h1 => ?_,fun h1 => ?_⟩
  ·repeat(first|(with_reducible refine AWp.seq ?_)|(with_reducible refine AWp.block ?_))
   refine AWp.mix mixed [0,1,2,3,4,5,6,8,9,10] (.step 7 (.step 11 (.step 12 (.step 13 (.step 14 (.step 15 .done .done) .done) .done) .done) .done) (.step 11 (.step 7 (.step 12 (.step 13 (.step 14 (.step 15 .done .done) .done) .done) .done) .done) .done)) (by kernel_rfl) ?_;simp only[go_sem]
   refine Sd ?_
   refine⟨?_,?_⟩
   all_goals
    refine Wk ?_
    exact⟨_,List.Sublist.refl _,0,by decide,.inr ⟨rfl,rfl,rfl⟩⟩
  ·exact absurd (by decide) h1
 ·simp only[go_sem]
  refine Wk ?_
  intro h1
  refine ret_own ?_
  simp only[go_sem]
theorem parts_zero {k:Int} (h:partsF k=(([]:List Pd).length:Int)):¬k=16∧¬k=17∧¬k=18∧¬k=21∧¬k=19∧¬k=20∧¬k=11∧¬k=12:=by
 have h:partsF k=0:=h
 refine⟨?_,?_,?_,?_,?_,?_,?_,?_⟩ <;> (rintro rfl;exact absurd h (by decide))
def nrmR (l:List Pd) (b:Bool) (i:Nat):List AV:=((l.take i).map fun x=>normF x b).map aPd ++ (l.drop i).map aPd
theorem nrmR_row {b:Bool} {l:List Pd} {i:Nat} (hi:i<l.length):(nrmR l b i).set i (aPd (normF l[i] b))=nrmR l b (i+1):=by
 unfold nrmR
 have h1:(((l.take i).map fun x=>normF x b).map aPd).length=i:=by simp;omega
 rw[List.set_append,if_neg (by omega),h1,Nat.sub_self,List.drop_eq_getElem_cons hi,List.map_cons,List.set_cons_zero,List.take_succ_eq_append_getElem hi,List.map_append,List.map_append,List.append_assoc]
 rfl
theorem nrmR_len {b:Bool} {l:List Pd} {i:Nat} (hi:i≤l.length):(nrmR l b i).length=l.length:=by
 unfold nrmR
 simp;omega
theorem nrmR_get {b:Bool} {l:List Pd} {i:Nat} (hi:i<l.length):(nrmR l b i).getD i .any=aPd l[i]:=by
 unfold nrmR
 have h1:(((l.take i).map fun x=>normF x b).map aPd).length=i:=by simp;omega
 rw[List.getD_eq_getElem?_getD,List.getElem?_append_right (by omega),h1,Nat.sub_self,List.drop_eq_getElem_cons hi]
 rfl
theorem nrmR_zero (l:List Pd) (b:Bool):nrmR l b 0=l.map aPd:=by unfold nrmR;simp
theorem nrmR_full (l:List Pd) (b:Bool):nrmR l b l.length=(l.map fun x=>normF x b).map aPd:=by unfold nrmR;rw[List.take_length,List.drop_length,List.map_nil,List.append_nil]
set_option maxHeartbeats 2000000 in
theorem classify_normal (t:Pd):szF t≤1000000→allB locB t=true→∀b,PC Proofs.Tryz.prog 32 [aPd t,ab b] (aPd (normF t b)):=by
 induction t using Pd.ind with
 | _ k n p q s l ih =>
 intro hz hloc b
 have hsz:szF (.mk k n p q s l)=szL l+1:=by rw[szF]
 have hll:=szL_len l
 rw[allB_mk,Bool.and_eq_true] at hloc
 obtain⟨hlc,hcl⟩:=hloc
 have hpl:=locB_len hlc
 have hsp:=normF_mk k n p q s l b
 have hcp:=classify_copiedM (.mk k n p q s l) hz
 rw[aPd_mk] at hcp
 have hop:=classify_opposite k
 have hch:=fun i (hi:i<l.length) b=>ih l[i] (List.getElem_mem hi) (by have:=szL_mem (List.getElem_mem hi);omega) (List.all_eq_true.1 hcl _ (List.getElem_mem hi)) b
 generalize normF (.mk k n p q s l) b=T at *
 by_cases h15:k=15
 ·subst h15
  have h1:partsF 15=1:=by decide
  obtain⟨x,rfl⟩:=len_one (l:=l) (by omega)
  rw[if_pos rfl,hdN_one] at hsp
  have hx:=hch 0 (by simp) (!b)
  simp only[List.getElem_cons_zero] at hx
  rw[← hsp] at hx
  clear hch hcp hop
  obtain⟨k2,n2,p2,q2,s2,l2⟩:=x
  obtain⟨k3,n3,p3,q3,s3,l3⟩:=T
  simp only[aPd_mk,List.map_cons,List.map_nil] at *
  refine PC.enter 58 [.cell 4 24] [2,7] Proofs.Tryz.func32 rfl rfl rfl rfl rfl (by simp) (AWp.of ?_);simp only[go_sem]
  intro b4
  repeat(first|((with_reducible refine AWp.ofC ?_ ?_);exact rfl;simp only[go_sem,Int.reduceEq])|((with_reducible refine an ?_ ?_);exact Au))
  refine Sd ?_
  refine(hx).val.use ?_;simp only[go_sem]
  refine Wk ?_
  refine ret_eq ?_;simp only[go_sem]
 ·rw[if_neg h15] at hsp
  generalize hK:(if b=true then oppF k else k)=K at *
  refine PC.enter 58 [.cell 4 24] [2,7] Proofs.Tryz.func32 rfl rfl rfl rfl rfl (by simp) (AWp.of ?_);simp only[go_sem]
  intro b4
  refine W1 h15 ?_
  refine(MVal.nd (MVal.frame (Lm:=[]) (Lr:=[(b4,.row 24 6 [aPd0] 1)]) hcp.val)).mono ?_
  rintro r L ⟨hnd,L1,rfl,v,rfl,hA⟩
  have pAP:AV.agg [ai k,ai n,ai p,ai q,astr s,.sl 6 (l.map aPd)]=aPd (.mk k n p q s l):=by rw[aPd_mk]
  rcases hA.inv with ⟨e1,rfl,rfl⟩|⟨bq,cap,rfl,rfl⟩
  ·have hl0:l=[]:=List.map_eq_nil_iff.1 e1
   subst hl0
   obtain⟨z1,z2,z3,z4,z5,z6,z7,z8⟩:=parts_zero hpl
   simp only[go_sem,h15]
   intro b5 g1
   refine Sd ?_
   have n1:¬b4=b5:=by omega
   have n2:¬b5=b4:=by omega
   refine AWp.cut [1,2,4,5] (fun vs L=>L=[(b5,.row 24 6 [.agg [ai K,ai n,ai p,ai q,astr s,anil]] 1),(b4,.row 24 6 [aPd0] 1)]∧vs=[ab b,.rp 6 [.agg [ai k,ai n,ai p,ai q,astr s,.sl 6 []]] 0 0,.lp b4 6 0 0,.lp b5 6 0 0]) ?_ ?_
   ·cases b
    ·refine Wk ?_
     exact⟨_,List.Sublist.refl _,by rw[← hK];rfl⟩
    ·refine Wk ?_
     refine Sd ?_
     refine(hop).val.use ?_;simp only[go_sem]
     refine W2 n1 n2 ?_
     exact⟨_,List.Sublist.refl _,by rw[← hK];rfl⟩
   rintro vs L - ⟨rfl,rfl⟩
   simp only[go_sem]
   repeat(first|((with_reducible refine AWp.ofC ?_ ?_);exact rfl;simp only[go_sem,z1,z2,z3,z4,z5,z6,z7,z8,n1,n2,aPd0])|((with_reducible refine an ?_ ?_);exact Au))
   refine ret_view [] ?_;simp only[go_sem,n1,n2]
   rw[hsp]
   simp only[List.map_nil,List.reverse_nil,ite_self,aPd_mk]
   exact .mkAgg (Vws.cons (.refl _) (Vws.cons (.refl _) (Vws.cons (.refl _) (Vws.cons (.refl _) (Vws.cons (.refl _) (Vws.cons (.nil 6) .nil))))))
  ·have hlm:(l.map aPd).length=l.length:=List.length_map _
   rw[hlm]
   simp only[go_sem,h15]
   intro b5 g1 g2
   refine Sd ?_
   have hq4:¬bq=b4:=by simp at hnd;exact hnd
   have n0:¬b4=bq:=fun e=>hq4 e.symm
   have n1:¬b4=b5:=by omega
   have n2:¬b5=b4:=by omega
   have n3:¬bq=b5:=by omega
   have n4:¬b5=bq:=by omega
   refine AWp.cut [1,2,4,5] (fun vs L=>L=[(bq,.row 24 6 (l.map aPd) cap),(b5,.row 24 6 [.agg [ai K,ai n,ai p,ai q,astr s,.ls bq 6 0 l.length cap]] 1),(b4,.row 24 6 [aPd0] 1)]∧vs=[ab b,.rp 6 [.agg [ai k,ai n,ai p,ai q,astr s,.sl 6 (l.map aPd)]] 0 0,.lp b4 6 0 0,.lp b5 6 0 0]) ?_ ?_
   ·refine AWp.perm (L':=[(bq,.row 24 6 (l.map aPd) cap),(b5,.row 24 6 [.agg [ai k,ai n,ai p,ai q,astr s,.ls bq 6 0 l.length cap]] 1),(b4,.row 24 6 [aPd0] 1)]) (List.Perm.swap _ _ _) ?_
    cases b
    ·refine Wk ?_
     exact⟨_,List.Sublist.refl _,by rw[← hK];rfl⟩
    ·refine Wk ?_
     refine Sd ?_
     refine(hop).val.use ?_;simp only[go_sem,n1,n2,n3,n4]
     refine W4 n1 n2 n3 n4 ?_
     exact⟨_,List.Sublist.refl _,by rw[← hK];rfl⟩
   rintro vs L - ⟨rfl,rfl⟩
   by_cases hT:16≤k∧k≤21
   ·rw[if_pos hT] at hsp
    have hk6:k=16∨k=17∨k=18∨k=21∨k=19∨k=20:=by omega
    have hee:aPd T = .agg [ai K,ai n,ai p,ai q,astr s,.sl 6 ((l.map fun x=>normF x b).map aPd)]:=by rw[hsp,aPd_mk]
    rw[hee]
    clear hee hsp hop hcp hK hpl hlc pAP
    rcases hk6 with rfl|rfl|rfl|rfl|rfl|rfl
    all_goals
     simp only[go_sem]
     repeat(first|((with_reducible refine AWp.ofC ?_ ?_);exact rfl;simp only[go_sem,Int.reduceEq,n0,n1,n2,n3,n4,hlm])|((with_reducible refine an ?_ ?_);exact Au))
     refine AWp.range' l.length [] [1,4,5,35,36] (fun i vs L=>L=[(bq,.row 24 6 (nrmR l b i) cap),(b5,.row 24 6 [.agg [ai K,ai n,ai p,ai q,astr s,.ls bq 6 0 l.length cap]] 1),(b4,.row 24 6 [aPd0] 1)]) (by omega) rfl rfl rfl (by rw[nrmR_zero]) ?_ ?_
     ·rintro i vs L hil - rfl
      simp only[go_sem]
      have hgi:=getD_map (f:=aPd) hil
      have hxc:=hch i hil b
      have hst:=nrmR_row (b:=b) hil
      have hgy:=nrmR_get (b:=b) hil
      have hyl:=nrmR_len (b:=b) (l:=l) (i:=i) (by omega)
      clear hch ih hcl
      generalize nrmR l b i=ys at *
      generalize nrmR l b (i+1)=zs at *
      generalize normF l[i] b=z at *
      generalize l[i]=x at *
      obtain⟨k2,o2,p2,q2,s2,l2⟩:=x
      obtain⟨k3,o3,p3,q3,s3,l3⟩:=z
      simp only[aPd_mk] at hgi hxc hst hgy
      repeat(first|((with_reducible refine AWp.ofC ?_ ?_);exact rfl;simp only[go_sem,hgi,n0,n1,n2,n3,n4,hlm])|((with_reducible refine an ?_ ?_);exact Au))
      intro b7 g3 g4 g5
      have m1:¬bq=b7:=by omega
      have m2:¬b5=b7:=by omega
      have m3:¬b4=b7:=by omega
      have m4:¬b7=bq:=by omega
      have m5:¬b7=b5:=by omega
      have m6:¬b7=b4:=by omega
      refine Sd ?_
      repeat(first|(with_reducible refine AWp.seq ?_)|(with_reducible refine AWp.block ?_))
      refine AWp.readW mixed [0,1,2,3,4,5,6] 7 (by kernel_rfl) ?_;simp only[go_sem,hgi,n0,n1,n2,n3,n4,m1,m2,m3,m4,m5,m6,hyl,hlm]
      refine Sd ?_
      refine GCall.use (.agg [ai k3,ai o3,ai p3,ai q3,astr s3,.sl 6 (l3.map aPd)]) (fun _=>⟨At,(hxc).val.use ⟨rfl,rfl⟩⟩) ?_;simp only[go_sem,hgi,n0,n1,n2,n3,n4,m1,m2,m3,m4,m5,m6,hyl,hlm,hgy,List.drop_nil]
      refine Sd ?_
      exact⟨_,List.Sublist.refl _,by rw[hst]⟩
     ·rintro vs L - rfl
      have hyl2:((l.map fun x=>normF x b).map aPd).length=l.length:=by simp
      rw[nrmR_full]
      simp only[go_sem]
      repeat(first|((with_reducible refine AWp.ofC ?_ ?_);exact rfl;simp only[go_sem,n0,n1,n2,n3,n4,aPd0])|((with_reducible refine an ?_ ?_);exact Au))
      refine ret_view [true,false,false] ?_;simp only[go_sem,n0,n1,n2,n3,n4]
      exact .mkAgg (Vws.cons (.refl _) (Vws.cons (.refl _) (Vws.cons (.refl _) (Vws.cons (.refl _) (Vws.cons (.refl _) (Vws.cons (Vw.ofLs (if_pos rfl) hyl2.symm) .nil))))))
   rw[if_neg hT] at hsp
   have z1:¬k=16:=by omega
   have z2:¬k=17:=by omega
   have z3:¬k=18:=by omega
   have z4:¬k=21:=by omega
   have z5:¬k=19:=by omega
   have z6:¬k=20:=by omega
   by_cases hR:b=true∧(k=11∨k=12)
   ·rw[if_pos hR] at hsp
    obtain⟨rfl,hR⟩:=hR
    have hp2:partsF k=2:=by rcases hR with rfl|rfl <;> decide
    obtain⟨x,y,rfl⟩:=len_two (l:=l) (by omega)
    have hrv:=preds_Reverse2 bq cap x y
    clear hch ih
    rw[hsp]
    simp only[aPd_mk,List.map_cons,List.map_nil,List.reverse_cons,List.reverse_nil,List.nil_append,List.cons_append,List.length_cons,List.length_nil] at *
    generalize hX:aPd x=X at *
    generalize hY:aPd y=Y at *
    rcases hR with rfl|rfl
    all_goals
     simp only[go_sem]
     repeat(first|((with_reducible refine AWp.ofC ?_ ?_);exact rfl;simp only[go_sem,Int.reduceEq,n0,n1,n2,n3,n4])|((with_reducible refine an ?_ ?_);exact Au))
     refine(MVal.frame (Lm:=[(bq,.row 24 6 [X,Y] cap)]) (Lr:=[(b5,.row 24 6 [.agg [ai K,ai n,ai p,ai q,astr s,.ls bq 6 0 2 cap]] 1),(b4,.row 24 6 [aPd0] 1)]) hrv.val).mono ?_
     rintro r L ⟨L1,rfl,rfl⟩
     simp only[go_sem]
     repeat(first|((with_reducible refine AWp.ofC ?_ ?_);exact rfl;simp only[go_sem,n0,n1,n2,n3,n4,aPd0])|((with_reducible refine an ?_ ?_);exact Au))
     refine ret_view [true,false,false] ?_;simp only[go_sem,n0,n1,n2,n3,n4]
     exact .mkAgg (Vws.cons (.refl _) (Vws.cons (.refl _) (Vws.cons (.refl _) (Vws.cons (.refl _) (Vws.cons (.refl _) (Vws.cons (Vw.ofLs (if_pos rfl) rfl) .nil))))))
   rw[if_neg hR] at hsp
   have hbk:b=false∨(¬k=11∧¬k=12):=by
    cases b
    ·exact .inl rfl
    ·exact .inr ⟨fun e=>hR ⟨rfl,.inl e⟩,fun e=>hR ⟨rfl,.inr e⟩⟩
   rw[hsp]
   simp only[aPd_mk]
   rcases hbk with rfl|⟨z7,z8⟩
   ·by_cases e7:k=11
    ·subst e7
     simp only[go_sem]
     repeat(first|((with_reducible refine AWp.ofC ?_ ?_);exact rfl;simp only[go_sem,Int.reduceEq,n0,n1,n2,n3,n4,aPd0])|((with_reducible refine an ?_ ?_);exact Au))
     refine ret_view [true,false,false] ?_;simp only[go_sem,n0,n1,n2,n3,n4]
     exact .mkAgg (Vws.cons (.refl _) (Vws.cons (.refl _) (Vws.cons (.refl _) (Vws.cons (.refl _) (Vws.cons (.refl _) (Vws.cons (Vw.ofLs (if_pos rfl) hlm.symm) .nil))))))
    ·by_cases e8:k=12
     ·subst e8
      simp only[go_sem]
      repeat(first|((with_reducible refine AWp.ofC ?_ ?_);exact rfl;simp only[go_sem,Int.reduceEq,n0,n1,n2,n3,n4,aPd0])|((with_reducible refine an ?_ ?_);exact Au))
      refine ret_view [true,false,false] ?_;simp only[go_sem,n0,n1,n2,n3,n4]
      exact .mkAgg (Vws.cons (.refl _) (Vws.cons (.refl _) (Vws.cons (.refl _) (Vws.cons (.refl _) (Vws.cons (.refl _) (Vws.cons (Vw.ofLs (if_pos rfl) hlm.symm) .nil))))))
     ·simp only[go_sem]
      repeat(first|((with_reducible refine AWp.ofC ?_ ?_);exact rfl;simp only[go_sem,z1,z2,z3,z4,z5,z6,e7,e8,n0,n1,n2,n3,n4,aPd0])|((with_reducible refine an ?_ ?_);exact Au))
      refine ret_view [true,false,false] ?_;simp only[go_sem,n0,n1,n2,n3,n4]
      exact .mkAgg (Vws.cons (.refl _) (Vws.cons (.refl _) (Vws.cons (.refl _) (Vws.cons (.refl _) (Vws.cons (.refl _) (Vws.cons (Vw.ofLs (if_pos rfl) hlm.symm) .nil))))))
   ·simp only[go_sem]
    repeat(first|((with_reducible refine AWp.ofC ?_ ?_);exact rfl;simp only[go_sem,z1,z2,z3,z4,z5,z6,z7,z8,n0,n1,n2,n3,n4,aPd0])|((with_reducible refine an ?_ ?_);exact Au))
    refine ret_view [true,false,false] ?_;simp only[go_sem,n0,n1,n2,n3,n4]
    exact .mkAgg (Vws.cons (.refl _) (Vws.cons (.refl _) (Vws.cons (.refl _) (Vws.cons (.refl _) (Vws.cons (.refl _) (Vws.cons (Vw.ofLs (if_pos rfl) hlm.symm) .nil))))))
end Go.AL
end
section
namespace Go.AL
open Go Go.RowKit
section
variable {α:Type} (bg:α→α→Bool) (len:Nat→Nat) (f:Nat→Nat→α) (n:Nat)
def Tgt (t:Nat→Nat):Prop:=(∀p,p<n→t p<len p)∧∀p q,p<n→q<n→p ≠ q→bg (f p (t p)) (f q (t q))=true
def LeastT (a:Nat→Nat):Prop:=Tgt bg len f n a∧∀t,Tgt bg len f n t→∀p,p<n→a p≤t p
variable {bg len f n}
end
end Go.AL
end
section
namespace Go.AL
open Go Go.RowKit
set_option maxRecDepth 4000
section
variable {b:Nat→Bool} {p:Nat}
end
structure SpOk (b:Nat→Bool) (p K:Nat) (l:List Stp):Prop where
 el:∀s ∈ l,s.1=p∧s.2.1≤s.2.2∧s.2.2<K∧∀j,s.2.1≤j→j≤s.2.2→b j=true
 ord:l.Pairwise fun s u=>s.2.2+1<u.2.1
 cov:∀j,j<K→b j=true→∃s ∈ l,s.2.1≤j∧j≤s.2.2
section
variable {b:Nat→Bool} {p K:Nat} {l:List Stp}
end
def bgN (ps:List Pr) (a o:Stp):Bool:=decide (a.2.1=0) || (decide (o.2.2=nev ps o.1) || decide ((a.2.1:Int)≤cAt (ptF ps o.1 o.2.2) a.1))
def fSp (rows:Nat→List Stp) (p i:Nat):Stp:=(rows p).getD i (0,0,0)
def lenSp (rows:Nat→List Stp) (p:Nat):Nat:=(rows p).length
abbrev LeastS (ps:List Pr) (rows:Nat→List Stp) (t:Nat→Nat):Prop:=LeastT (bgN ps) (lenSp rows) (fSp rows) ps.length t
def RowsOk (ps:List Pr) (b:Nat→Nat→Bool) (rows:Nat→List Stp):Prop:=∀p,p<ps.length→SpOk (b p) p (nev ps p+1) (rows p)
def AvoidC (ps:List Pr) (b:Nat→Nat→Bool) (c:List Int):Prop:=∃p,p<ps.length∧b p (cAt c p).toNat=false
section
variable {ps:List Pr} (hv:validF ps=true)
include hv
end
section
variable {ps:List Pr} {b:Nat→Nat→Bool} {rows:Nat→List Stp} (hv:validF ps=true) (hR:RowsOk ps b rows)
include hR
end
section
variable {ps:List Pr} (hv:validF ps=true)
include hv
end
section
variable {ps:List Pr} (hv:validF ps=true)
include hv
end
open Classical in
noncomputable def tgtO (ps:List Pr) (rows:Nat→List Stp):Option (Nat→Nat):=if h:∃a,LeastS ps rows a then some (Classical.choose h) else none
structure DgO (ps:List Pr) (b:Nat→Nat→Bool) (O:List (List Int)) (c:List Int):Prop where
 ex:∃R,O=zeroC ps :: R∧chnF ps (zeroC ps) R=true
 last:O.getLast?=some c
 av:∀d ∈ O,AvoidC ps b d
section
variable {ps:List Pr} (hv:validF ps=true) {b:Nat→Nat→Bool}
theorem DgO.start (h:AvoidC ps b (zeroC ps)):DgO ps b [zeroC ps] (zeroC ps):=⟨⟨[],rfl,rfl⟩,rfl,fun d hd=>by simp only[List.mem_singleton] at hd;subst hd;exact h⟩
include hv in
end
end Go.AL
end
section
namespace Go.AL
open Go Go.RowKit
set_option maxRecDepth 4000
theorem AWp.cutT {C:Cfg} {a b:Code} {Q:AQ} {ρ:Env} {L:AHeap} (ks:List Nat) (J:List AV→AHeap→Prop) (h1:AWp C a (cutQ ks J Q) ρ L) (h2:∀vs L',vs.length=ks.length→J vs L'→AWp C b Q (ks.zip vs) L') :
  AWp C a (thenQ (AWp C b Q) Q) ρ L:=by
 refine h1.mono fun e ρ' L' hq => ?_
 cases e with
 | normal =>
  obtain⟨L1,hs,hj⟩:=hq
  exact AWp.st (fun w0 M A0 a w h=>st_sub (st_forget h (get_zip ks ρ')) hs) (h2 _ L1 (by simp) hj)
 | _=>exact hq
def pastV (ps:List Pr) (s:Stp):AV:=if s.2.2=nev ps s.1 then anil else aInts (ptF ps s.1 s.2.2)
def aStr (ps:List Pr) (s:Stp):AV:=.agg [ai s.1,ai s.2.1,ai s.2.2,pastV ps s]
theorem pastV_fo (ps:List Pr) (s:Stp):fo (pastV ps s)=(True,pastV ps s):=by unfold pastV;split <;> rfl
theorem pastV_one (ps:List Pr) (s:Stp):one (pastV ps s)=true:=by unfold pastV;split <;> rfl
attribute [go_sem ↓] pastV_fo pastV_one
attribute [go_sem] aStr
def BadI (n:Nat) (x:List Int) (i:Nat):Prop:=x.getD i 0<0∨(n:Int)<x.getD i 0∨(0<i∧x.getD i 0≤x.getD (i - 1) 0)
open Classical in
noncomputable def listsF (ps:List Pr) (l:List (List Int)):Int:=if validF ps=true∧l.length=ps.length then (if ∃p i,p<l.length∧i<(l.getD p []).length∧BadI (nev ps p) (l.getD p []) i then 2 else 0) else 1
end Go.AL
end
section
namespace Go.AL
open Go Go.RowKit
set_option maxRecDepth 4000
section
variable {ps:List Pr} {E:Elim} {l:List (List Int)} {a:Nat→Nat}
end
theorem ref28_Same (t:Pd):szF t≤1000000→PC Proofs.Tryz.prog 13 [aPd t,aPd t] (ab true):=by
 induction t using Pd.ind with
 | _ k n p q s l ih =>
 intro hz
 have hsz:szF (.mk k n p q s l)=szL l+1:=by rw[szF]
 have hll:=szL_len l
 refine PC.enter 67 [.tmp 4] [2,3] Proofs.Tryz.func13 rfl rfl rfl rfl rfl (by simp) (AWp.of ?_);simp only[go_sem]
 refine Wk ?_
 refine AWp.block (AWp.count 5 l.length [] [2,3] (fun i vs L=>L=[]) rfl rfl rfl ?_)
 rintro i vs L hi - rfl
 simp only[go_sem]
 refine Wk ?_
 refine⟨fun h4 => ?_,fun h4 => ?_⟩
 ·have hil:i<l.length:=by omega
  have hgi:=getD_map (f:=aPd) hil
  have hzi:=szL_mem (List.getElem_mem hil)
  have hch:=ih l[i] (List.getElem_mem hil) (by omega)
  generalize l[i]=x at *
  obtain⟨k2,n2,p2,q2,s2,l2⟩:=x
  simp only[aPd_mk] at hgi hch
  refine AWp.seq (AWp.block (AWp.seq ?_))
  repeat(first|(with_reducible refine AWp.seq ?_)|(with_reducible refine AWp.block ?_))
  refine AWp.mix mixed [0,1,2,3,4,5,6,7,8,9,10,11] .done (by kernel_rfl) ?_;simp only[go_sem,hgi]
  refine Sd ?_
  refine Gc hch ?_
  refine Sd ?_
  refine Wk ?_
  exact⟨_,List.Sublist.refl _,rfl⟩
 ·refine Wk ?_
  refine ret_eq ?_;simp only[go_sem]
mutual
def hugeF:Pd→Int→Int→Int
 | .mk _ _ _ _ _ l,d,c=>hugeL l (d+1) (if 40<d then 1000 else c+1)
def hugeL:List Pd→Int→Int→Int
 | [],_,c=>c
 | x :: r,d,c=>if c≤300 then hugeL r d (hugeF x d c) else c
end
theorem AWp.slLen {C:Cfg} {Q:AQ} {ρ:Env} {L:AHeap} {c:Code} {k j:Nat} {xs:List AV} (hj:get ρ j = .sl k xs) (h:xs.length≤9223372036854775807→AWp C c Q ρ L):AWp C c Q ρ L:=fun hok n w0 M A0 a w hs=>by
 obtain⟨A,ds,hs'⟩:=st_iff.1 hs
 have hr:=hs'.env j
 rw[hj] at hr
 have hle:xs.length≤9223372036854775807:=by
  have hm:maxLen=9223372036854775807:=rfl
  rcases hr.inv_sl with ⟨rfl,_⟩|⟨b,off,cap,_,_,h1,h2,_⟩
  ·exact Nat.zero_le _
  ·omega
 exact h hle hok n w0 M A0 a w hs
mutual
def nodF:Pd→Int→Int→Int
 | .mk _ _ _ _ _ l,m,d=>if 40<d then m else nodL l m d 1
def nodL:List Pd→Int→Int→Int→Int
 | [],_,_,n=>n
 | x :: r,m,d,n=>if m≤n+nodF x (m - n) (d+1) then m else nodL r m d (n+nodF x (m - n) (d+1))
end
def ndsF (t:Pd) (most d:Int):Int:=if most≤1 then (if d≤40∧szF t=1 then 1 else most) else if (dpF t:Int)+d≤41∧(szF t:Int)<most then szF t else most
theorem szL_takeF {l:List Pd} {i:Nat} (hi:i<l.length):szL (l.take i)+szF l[i]≤szL l:=by
 have h1:=szL_take hi
 have h2:=szL_take_le l (i+1)
 omega
theorem dpL_mem {l:List Pd} {x:Pd} (h:x ∈ l):dpF x≤dpL l:=by
 induction l with
 | nil=>cases h
 | cons y l ih =>
  rw[dpL]
  rcases List.mem_cons.1 h with rfl|h
  ·omega
  ·have:=ih h;omega
theorem law30_nodes (t:Pd):∀most d:Int,-d - 10≤most→most≤250→0≤d→d≤41→PC Proofs.Tryz.prog 28 [aPd t,ai most,ai d] (ai (ndsF t most d)):=by
 induction t using Pd.ind with
 | _ k n p q s l ih =>
 intro most d hm0 hm1 hd0 hd1
 have hsz:szF (.mk k n p q s l)=szL l+1:=by rw[szF]
 have hdp:dpF (.mk k n p q s l)=dpL l+1:=by rw[dpF]
 have hll:=szL_len l
 have hsp:ndsF (.mk k n p q s l) most d=if most≤1 then (if d≤40∧szL l+1=1 then 1 else most) else if ((dpL l+1:Nat):Int)+d≤41∧((szL l+1:Nat):Int)<most then ((szL l+1:Nat):Int) else most:=by rw[ndsF,hsz,hdp]
 generalize ndsF (.mk k n p q s l) most d=R at *
 have hno:∀i (hi:i<l.length),(1+szL (l.take i):Int)+szF l[i] ≥ most∨41<(dpF l[i]:Int)+(d+1)→R=most:=fun i hi h=>by
  have h1:=szL_takeF hi
  have h2:=dpL_mem (List.getElem_mem hi)
  have h3:=szF_pos l[i]
  rw[hsp]
  split
  ·rw[if_neg (by omega)]
  ·rw[if_neg (by rintro⟨a,b⟩;rcases h with h|h <;> omega)]
 have hyes:(∀j (hj:j<l.length),(dpF l[j]:Int)+(d+1)≤41)→d≤40→((1+szL l:Nat):Int)<most∨(l=[])→R=((1+szL l:Nat):Int):=fun h h40 hlt=>by
  have hdl:(dpL l:Int)+d+1≤41:=by
   have:∀l':List Pd,(∀x ∈ l',(dpF x:Int)+(d+1)≤41)→(dpL l':Int)+d+1≤41:=fun l'=>by
    induction l' with
    | nil=>intro _;rw[dpL];omega
    | cons y r ih =>
     intro h
     rw[dpL]
     have h1:=h y List.mem_cons_self
     have h2:=ih fun x hx=>h x (List.mem_cons_of_mem _ hx)
     omega
   refine this l fun x hx => ?_
   obtain⟨j,hj,rfl⟩:=List.getElem_of_mem hx
   exact h j hj
  rw[hsp]
  rcases hlt with hlt|rfl
  ·rw[if_neg (by omega),if_pos (by omega)];omega
  ·have e1:szL ([]:List Pd)=0:=by rw[szL]
   have e2:dpL ([]:List Pd)=0:=by rw[dpL]
   split
   ·rw[if_pos (by omega)];omega
   ·rw[if_pos (by omega)];omega
 refine PC.enter 35 [.tmp 6] [3,9] Proofs.Tryz.func28 rfl rfl rfl rfl rfl (by simp) (AWp.of ?_);simp only[go_sem]
 refine Wk ?_
 refine⟨fun h1 => ?_,fun h1 => ?_⟩
 ·refine Wk ?_
  refine ret_eq ?_;simp only[go_sem]
  rw[hsp,if_neg (show ¬(d≤40∧szL l+1=1) by omega)]
  split
  ·rfl
  ·rw[if_neg (by omega)]
 refine Wk ?_
 refine AWp.slLen (j:=14) (k:=6) (xs:=l.map aPd) rfl fun hL => ?_
 rw[List.length_map] at hL
 refine AWp.range1' l.length [7] [1,2,14,15] (fun i vs L=>L=[]∧vs=[ai (1+szL (l.take i))]∧(i=0∨(1+szL (l.take i):Int)<most)∧∀j (hj:j<l.length),j<i→(dpF l[j]:Int)+(d+1)≤41) hL rfl rfl rfl ⟨rfl,by rw[List.take_zero,szL];rfl,.inl rfl,by omega⟩ ?_ ?_
 ·rintro i vs L hil - ⟨rfl,rfl,hlt,hI⟩
  simp only[go_sem]
  have hgi:=getD_map (f:=aPd) hil
  have hsu:=szL_take hil
  have hzp:=szF_pos l[i]
  have hb:(1+szL (l.take i):Int)<most∨(1+szL (l.take i):Int)=1:=by
   rcases hlt with rfl|hlt
   ·right;rw[List.take_zero,szL];rfl
   ·exact .inl hlt
  have hch:=ih l[i] (List.getElem_mem hil) (most - (1+szL (l.take i))) (d+1) (by omega) (by omega) (by omega) (by omega)
  have hno:=hno i hil
  have hc:ndsF l[i] (most - (1+szL (l.take i))) (d+1)=if most - (1+szL (l.take i))≤1 then (if d+1≤40∧szF l[i]=1 then 1 else most - (1+szL (l.take i))) else if (dpF l[i]:Int)+(d+1)≤41∧(szF l[i]:Int)<most - (1+szL (l.take i)) then (szF l[i]:Int) else most - (1+szL (l.take i)):=rfl
  have hnx:(dpF l[i]:Int)+(d+1)≤41→∀j (hj:j<l.length),j<i+1→(dpF l[j]:Int)+(d+1)≤41:=fun h j hj hji=>by
   by_cases e:j=i
   ·subst e;exact h
   ·exact hI j hj (by omega)
  have hnew:(1+szL (l.take (i+1)):Int)=1+szL (l.take i)+szF l[i]:=by omega
  have hNp:(1:Int)≤1+szL (l.take i):=by omega
  generalize ndsF l[i] (most - (1+szL (l.take i))) (d+1)=c at *
  generalize (1+szL (l.take i):Int)=N at *
  generalize (1+szL (l.take (i+1)):Int)=N2 at *
  have hcb:c≤250 ∧ -60≤c:=by
   rw[hc]
   split
   ·split <;> omega
   ·split <;> omega
  have hcase:(most≤N+c∧R=most)∨(N+c<most∧N2=N+c∧(dpF l[i]:Int)+(d+1)≤41):=by
   rw[hc]
   by_cases g1:most - N≤1
   ·rw[if_pos g1]
    left
    refine⟨by split <;> omega,hno (.inl (by omega))⟩
   ·rw[if_neg g1]
    by_cases g2:(dpF l[i]:Int)+(d+1)≤41∧(szF l[i]:Int)<most - N
    ·rw[if_pos g2]
     exact .inr ⟨by omega,by omega,g2.1⟩
    ·rw[if_neg g2]
     exact .inl ⟨by omega,hno (by omega)⟩
  clear hc hnew
  generalize l[i]=x at *
  obtain⟨k2,n2,p2,q2,s2,l2⟩:=x
  simp only[aPd_mk] at hgi hch
  refine W1 hgi ?_
  intro b9
  refine Sd ?_
  refine W1 hgi ?_
  refine Sd ?_
  refine(hch).val.use ?_;simp only[go_sem,hgi]
  refine Sd ?_
  refine Wk ?_
  refine⟨fun h2 => ?_,fun h2 => ?_⟩
  ·refine Wk ?_
   refine ret_eq ?_;simp only[go_sem]
   rcases hcase with ⟨_,e⟩|⟨g,_⟩
   ·rw[e]
   ·omega
  ·refine Wk ?_
   rcases hcase with ⟨g,_⟩|⟨g1,g2,g3⟩
   ·exact absurd g h2
   ·exact⟨_,List.Sublist.refl _,rfl,by rw[g2],by omega,hnx g3⟩
 ·rintro vs L - ⟨rfl,rfl,hlt,hI⟩
  simp only[go_sem]
  refine Wk ?_
  refine ret_eq ?_;simp only[go_sem]
  rw[hyes (fun j hj=>hI j hj hj) (by omega) (by
   rcases hlt with h0|hlt
   ·exact .inr (List.length_eq_zero_iff.1 h0)
   ·rw[List.take_length] at hlt;left;omega)]
  congr 1
def smlB (t:Pd):Bool:=decide (dpF t≤40) && decide (szF t<250)
theorem sml_size {t:Pd} (h:smlB t=true):szF t≤1000000:=by
 unfold smlB at h
 simp only[Bool.and_eq_true,decide_eq_true_eq] at h
 omega
theorem law30_small (t:Pd):PC Proofs.Tryz.prog 7 [aPd t] (ab (smlB t)):=by
 have h1:=law30_nodes t 250 1 (by decide) (by decide) (by decide) (by decide)
 have h2:ndsF t 250 1=if (dpF t:Int)+1≤41∧(szF t:Int)<250 then (szF t:Int) else 250:=rfl
 have hz:=szF_pos t
 have hsp:smlB t=(decide (dpF t≤40) && decide (szF t<250)):=rfl
 have h3:t.l.length<szF t:=by
  cases t
  rename_i l
  have:=szL_len l
  rw[szF]
  show l.length<_
  omega
 generalize hS:smlB t=S at *
 generalize ndsF t 250 1=c at *
 generalize szF t=z at *
 generalize dpF t=dd at *
 obtain⟨k,n,p,q,s,l⟩:=t
 simp only[aPd_mk,Pd.l] at *
 refine PC.enter 12 [.tmp 2] [1] Proofs.Tryz.func7 rfl rfl rfl rfl rfl (by simp) (AWp.of ?_);simp only[go_sem]
 refine Wk ?_
 refine Sd ?_
 refine Gc h1 ?_
 refine Sd ?_
 refine Wk ?_
 refine ret_eq ?_;simp only[go_sem]
 rw[hsp,h2]
 congr 2
 by_cases e:(dd:Int)+1≤41∧(z:Int)<250
 ·rw[if_pos e,decide_eq_true (show (l.length:Int)<250 by omega),decide_eq_true e.2,decide_eq_true (show dd≤40 by omega),decide_eq_true (show z<250 by omega)]
 ·rw[if_neg e,show decide ((250:Int)<250)=false from rfl,Bool.and_false]
  by_cases e2:dd≤40
  ·rw[decide_eq_false (show ¬z<250 by omega),Bool.and_false]
  ·rw[decide_eq_false e2,Bool.false_and]
def nngB:Pd→Bool | .mk k _ _ _ _ _=>decide (¬k=15)
end Go.AL
end
