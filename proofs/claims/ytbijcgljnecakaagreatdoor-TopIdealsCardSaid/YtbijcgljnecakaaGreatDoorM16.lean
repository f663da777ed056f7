/- Texts of this claim's proof: WJ2, AlRdw, WJ3. No condition. -/
import Derived.Test.YtbijcgljnecakaaGreatDoorM15
import Derived.Test.YtbijcgljnecakaaGreatDoorM14
import Derived.Test.YtbijcgljnecakaaGreatDoorM9
import Derived.Test.YtbijcgljnecakaaGreatDoorM7
section
namespace Go.AL
open Go Go.RowKit
set_option maxRecDepth 4000
theorem MCalls.pcN {P:Program} {f:FuncId} {args:List AV} {K:AV→AHeap→Prop} {r0:AV} (h:MCalls P f args [] K) (hk:∀r L,(L.map (·.1)).Nodup→K r L→Vw L r r0):PC P f args r0 :=
 ⟨h.1,fun n w A vs h1 h2=>(h.2 n w A vs h1 h2).mono fun e w' hp=>by
  obtain⟨v,r,L',A',e1,hK,hf,hA,hL,hkk,hr⟩:=hp
  refine⟨v,r0,[],fun b=>A' b∨keysOf L' b,e1,⟨rfl,rfl⟩,hf,fun b hb => ?_,hL.viewed (Lf:=L') (Lk:=[]) (by simp) .nil,fun x hx=>absurd hx (by simp),hL.view (Lf:=L') (Lk:=[]) (by simp) (hk r L' hL.nodup hK) hr⟩
  rcases hb with hb|⟨x,hx,rfl⟩
  ·exact hA b hb
  ·rcases hkk x hx with h|h
   ·exact .inr (.inl h)
   ·exact .inr (.inr h)⟩
def FamW (tO tI:TypeId) (N n:Nat) (Y:Nat→List AV) (v:AV) (L:AHeap):Prop :=
 ∃(Lv:AHeap) (V:Nat→AV) (Ls:Nat→AHeap),L.Perm (Lv ++ famL n Ls)∧AppSt tO 2 ((List.range n).map fun q => .agg [ai N,V q]) v Lv∧∀q,q<n→AppSt tI 1 (Y q) (V q) (Ls q)
section
variable {tO tI:TypeId} {N n:Nat} {Y:Nat→List AV} {v:AV} {L:AHeap}
theorem FamW.nil (Y:Nat→List AV):FamW tO tI N 0 Y anil []:=⟨[],fun _=>anil,fun _=>[],by simp [famL],.nil,fun q h=>by omega⟩
theorem FamW.snoc {V:Nat→AV} {Ls:Nat→AHeap} {x v':AV} {Lx Lv' L':AHeap} (hF:∀q,q<n→AppSt tI 1 (Y q) (V q) (Ls q)) (hx:AppSt tI 1 (Y n) x Lx) (hA:AppSt tO 2 (((List.range n).map fun q => .agg [ai N,V q]) ++ [.agg [ai N,x]]) v' Lv') (hp:L'.Perm (Lv' ++ (Lx ++ famL n Ls))):FamW tO tI N (n+1) Y v' L':=by
 refine⟨Lv',fun q=>if q=n then x else V q,fun q=>if q=n then Lx else Ls q,hp.trans (List.Perm.append_left _ (fam_more Lx).symm),?_,fun q hq => ?_⟩
 ·have e:((List.range (n+1)).map fun q=>AV.agg [ai N,if q=n then x else V q])=((List.range n).map fun q => .agg [ai N,V q]) ++ [.agg [ai N,x]]:=by
   rw[List.range_succ,List.map_append]
   congr 1
   ·exact List.map_congr_left fun q hq=>by rw[if_neg (by have:=List.mem_range.1 hq;omega)]
   ·simp
  rw[e];exact hA
 ·by_cases e:q=n
  ·subst e;dsimp only;rw[if_pos rfl,if_pos rfl];exact hx
  ·dsimp only;rw[if_neg e,if_neg e];exact hF q (by omega)
theorem FamW.congr {Y':Nat→List AV} (h:FamW tO tI N n Y v L) (e:∀q,q<n→Y' q=Y q):FamW tO tI N n Y' v L:=by
 obtain⟨Lv,V,Ls,h1,h2,h3⟩:=h
 exact⟨Lv,V,Ls,h1,h2,fun q hq=>by rw[e q hq];exact h3 q hq⟩
theorem FamW.perm {L':AHeap} (h:FamW tO tI N n Y v L) (hp:L'.Perm L):FamW tO tI N n Y v L':=by
 obtain⟨Lv,V,Ls,h1,h2,h3⟩:=h
 exact⟨Lv,V,Ls,hp.trans h1,h2,h3⟩
theorem FamW.fo (h:FamW tO tI N n Y v L):fo v=(True,v):=by
 obtain⟨Lv,V,Ls,h1,h2,h3⟩:=h
 exact h2.fo
theorem FamW.shape (h:FamW tO tI N n Y v L):v=anil∨∃b c,v = .ls b 2 0 n c:=by
 obtain⟨Lv,V,Ls,h1,h2,h3⟩:=h
 rcases h2.inv with ⟨e1,e2,e3⟩|⟨bo,cap,e2,e3⟩
 ·exact .inl e2
 ·rw[List.length_map,List.length_range] at e2
  exact .inr ⟨_,_,e2⟩
theorem FamW.nil0 (h:FamW tO tI N n Y anil L):n=0:=by
 obtain⟨Lv,V,Ls,h1,h2,h3⟩:=h
 rcases h2.inv with ⟨e1,e2,e3⟩|⟨bo,cap,e2,e3⟩
 ·have:=congrArg List.length e1;simpa using this
 ·cases e2
theorem FamW.one (h:FamW tO tI N n Y v L) {p:Nat} (hp:p<n) (hY:Y p ≠ []) :
  ∃bo cap V bp cp X,v = .ls bo 2 0 n cap∧V.length=n∧V.getD p .any = .agg [ai N,.ls bp 1 0 (Y p).length cp]∧L.Perm ((bo,.row tO 2 V cap) :: (bp,.row tI 1 (Y p) cp) :: X) ∧
   ∀(Y':Nat→List AV) (L':AHeap),(∀q,q ≠ p→Y' q=Y q)→(Y' p).length=(Y p).length→L'.Perm ((bo,.row tO 2 V cap) :: (bp,.row tI 1 (Y' p) cp) :: X)→FamW tO tI N n Y' v L':=by
 obtain⟨Lv,V,Ls,h1,h2,h3⟩:=h
 have hlen:((List.range n).map fun q=>AV.agg [ai N,V q]).length=n:=by simp
 rcases h2.inv with ⟨e1,_,_⟩|⟨bo,cap,e2,e3⟩
 ·have h0:n=0:=by have:=congrArg List.length e1;simpa using this
  omega
 rw[hlen] at e2
 subst e3
 rcases (h3 p hp).inv with ⟨e1,_,_⟩|⟨bp,cp,e4,e5⟩
 ·exact absurd e1 hY
 refine⟨bo,cap,(List.range n).map fun q => .agg [ai N,V q],bp,cp,famR n p Ls,e2,hlen,by rw[map_range_getD hp,e4],?_,fun Y' L' hY' hl hL => ?_⟩
 ·have hf:=fam_split hp Ls
  rw[e5] at hf
  exact h1.trans (List.Perm.cons _ hf)
 ·refine⟨[(bo,.row tO 2 ((List.range n).map fun q => .agg [ai N,V q]) cap)],V,fun r=>if r=p then [(bp,.row tI 1 (Y' p) cp)] else Ls r,?_,?_,fun r hr => ?_⟩
  ·refine hL.trans (List.Perm.cons _ ?_)
   have hsp:=fam_split hp (fun r=>if r=p then [(bp,ABlk.row tI 1 (Y' p) cp)] else Ls r)
   rw[if_pos rfl,famR_congr (Ls:=Ls) (fun q hq=>if_neg hq)] at hsp
   exact hsp.symm
  ·have:=AppSt.row (t:=tO) (k:=2) bo ((List.range n).map fun q=>AV.agg [ai N,V q]) cap
   rw[hlen] at this
   rw[e2];exact this
  ·by_cases e:r=p
   ·subst e;dsimp only;rw[if_pos rfl,e4,← hl];exact .row _ _ _
   ·dsimp only;rw[if_neg e,hY' r e];exact h3 r hr
theorem FamW.vw (h:FamW tO tI N n Y v L) (hn:(L.map (·.1)).Nodup):Vw L v (.sl 2 ((List.range n).map fun q => .agg [ai N,.sl 1 (Y q)])):=by
 obtain⟨Lv,V,Ls,h1,h2,h3⟩:=h
 rcases h2.inv with ⟨e1,e2,e3⟩|⟨bo,cap,e2,e3⟩
 ·have h0:n=0:=by have:=congrArg List.length e1;simpa using this
  subst h0
  rw[e2];exact .nil 2
 ·rw[e2]
  refine Vw.ofLs' (t:=tO) (cap:=cap) (lk_of_mem hn (h1.mem_iff.2 (List.mem_append_left _ (by rw[e3];exact List.mem_singleton_self _)))) rfl ⟨by simp,fun i x y hx hy => ?_⟩
  by_cases hi:i<n
  ·rw[List.getElem?_map,List.getElem?_range hi] at hx hy
   cases hx;cases hy
   refine .mkAgg (Vws.cons (.refl _) (Vws.cons ?_ .nil))
   rcases (h3 i hi).inv with ⟨e4,e5,_⟩|⟨b,c,e5,e6⟩
   ·rw[e4,e5];exact .nil 1
   ·rw[e5]
    refine Vw.ofLs (t:=tI) (cap:=c) (lk_of_mem hn (h1.mem_iff.2 (List.mem_append_right _ ?_))) rfl
    unfold famL
    exact List.mem_flatMap.2 ⟨i,List.mem_range.2 hi,by rw[e6];exact List.mem_singleton_self _⟩
  ·have:(List.range n)[i]?=none:=by simp;omega
   rw[List.getElem?_map,this] at hx;cases hx
end
theorem perm_2_2 {α:Type} (x y z w:α) (R:List α):(x :: y :: z :: w :: R).Perm (z :: w :: x :: y :: R):=by
 have:=(List.perm_append_comm (l₁:=[x,y]) (l₂:=[z,w])).append_right R
 simpa using this
def wdV (n:Nat) (f:Nat→Bool):List AV:=(wordsF f n n).map fun w:Nat=>au64 (w:Int)
theorem wdV_len (n:Nat) (f:Nat→Bool):(wdV n f).length=nW n:=wds_len n f
theorem wdV_fill (n:Nat):wdV n (fun _=>false)=List.replicate (nW n) (au64 0):=by
 unfold wdV
 rw[words_skip (Nat.zero_le n) (fun _ _ _=>rfl),words_zero,List.map_replicate];rfl
theorem wdV_congr {n:Nat} {f g:Nat→Bool} (h:∀i,i<n→f i=g i):wdV n f=wdV n g:=by unfold wdV;rw[words_congr h]
theorem aNs_wd (n:Nat) (f:Nat→Bool):aNs n f = .agg [ai n,.sl 1 (wdV n f)]:=rfl
theorem relation_words (n:Nat) (hn:n≤1000000):PC Proofs.Tryz.prog 132 [ai n] (ai (nW n:Nat)):=by
 have hm:IntKind.i64.wrap (((n:Int)+63).tdiv 64)=(nW n:Nat):=by
  have:((n:Int)+63).tdiv 64=((nW n:Nat):Int):=by
   rw[show (n:Int)+63=((n+63:Nat):Int) by omega];unfold nW;rfl
  rw[this]
  exact IntWalk.i64_in _ (by unfold nW;omega)
 refine PC.enter 6 [.tmp 2] [] Proofs.Tryz.func132 rfl rfl rfl rfl rfl (by simp) (AWp.of ?_);simp only[go_sem]
 refine W1 hm ?_
 refine ret_eq ?_;simp only[go_sem]
set_option maxHeartbeats 2000000 in
theorem relation_empty (n:Nat) (hn:n≤512):MCalls Proofs.Tryz.prog 115 [ai n] [] fun r L=>∃v,r = .agg [v]∧FamW 38 64 n n (fun _=>wdV n fun _=>false) v L:=by
 have hw:=relation_words n (by omega)
 have hnW:nW n≤1000000:=by unfold nW;omega
 have hz:=wdV_fill n
 refine MCalls.enter' 19 [.cell 2 32] [14] Proofs.Tryz.func115 rfl rfl rfl rfl rfl (by simp) (AWp.of ?_);simp only[go_sem]
 refine Wk ?_
 intro b2
 refine Wk ?_
 intro b3 g3
 have m1:¬b2=b3:=by omega
 have m2:¬b3=b2:=by omega
 refine Wk ?_
 refine AWp.range' n [] [0,2,3,4] (fun k vs L=>vs=[]∧∃v Lf,L.Perm ((b3,.row 32 1 [.agg [v]] 1) :: (b2,.row 32 1 [.agg [anil]] 1) :: Lf)∧FamW 38 64 n k (fun _=>wdV n fun _=>false) v Lf) (by omega) rfl rfl rfl ⟨rfl,anil,[],.refl _,.nil _⟩ ?_ ?_
 ·rintro k vs L hk - ⟨rfl,v,Lf,hL,hF⟩
  obtain⟨Lv,V,Ls,hP,hA,hFr⟩:=hF
  refine AWp.perm (L':=(b3,.row 32 1 [.agg [v]] 1) :: (b2,.row 32 1 [.agg [anil]] 1) :: (Lv ++ famL k Ls)) (hL.trans ((hP.cons _).cons _)) (AWp.nodup fun hnd => ?_)
  have hyl:((List.range k).map fun q=>AV.agg [ai n,V q]).length=k:=by simp
  obtain⟨ys,hys⟩:∃ys,ys=(List.range k).map fun q=>AV.agg [ai n,V q]:=⟨_,rfl⟩
  rw[← hys] at hA hyl
  have hrep:∀b:Nat,AppSt 64 1 (wdV n fun _=>false) (.ls b 1 0 (nW n) (nW n)) [(b,.row 64 1 (List.replicate (nW n) (au64 0)) (nW n))]:=fun b=>by
   have:=AppSt.row (t:=64) (k:=1) b (wdV n fun _=>false) (nW n)
   rw[wdV_len,hz] at this
   rw[hz];exact this
  rcases hA.inv with ⟨e1,rfl,rfl⟩|⟨bo,cap,rfl,rfl⟩
  ·simp only[go_sem,List.nil_append]
   refine W2 m1 m2 ?_
   repeat(first|(with_reducible refine AWp.seq ?_)|(with_reducible refine AWp.block ?_))
   refine AWp.mix mixed [0,2,3,4] (.step 1 (.step 5 (.step 6 (.step 7 (.step 8 (.step 9 (.step 10 .done .done) .done) .done) .done) .done) .done) (.step 5 (.step 1 (.step 6 (.step 7 (.step 8 (.step 9 (.step 10 .done .done) .done) .done) .done) .done) (.step 6 (.step 1 (.step 7 (.step 8 (.step 9 (.step 10 .done .done) .done) .done) .done) (.step 7 (.step 1 (.step 8 (.step 9 (.step 10 .done .done) .done) .done) .done) .done)) .done)) .done)) (by kernel_rfl) ?_;simp only[go_sem,m1,m2]
   refine Sd ?_
   refine GCall.use (ai ((nW n:Nat):Int)) (fun _=>⟨At,(hw).val.use ⟨rfl,rfl⟩⟩) ?_;simp only[go_sem,m1,m2]
   repeat' (first|(with_reducible refine And.intro ?_ ?_))
   all_goals first|omega|skip
   all_goals
    intro b g1 g2 g3
    have k2:¬b3=b:=by omega
    try simp only[go_sem,k2]
    refine Sd ?_
    intro b' cap' g4 g5 g6 g7 g8
    have k1:¬b3=b':=by omega
    simp only[go_sem,k1,k2]
    refine Sd ?_
    refine⟨_,List.Sublist.refl _,_,_,perm_2_2 _ _ _ _ _,?_⟩
    exact FamW.snoc hFr (hrep b) (by rw[← hys,e1];exact .row _ _ _) (.refl _)
  ·have hnd2:¬b3=bo∧¬bo=b3∧¬b2=bo∧¬bo=b2:=by
    simp only[List.map_cons,List.cons_append,List.nil_append,List.nodup_cons,List.mem_cons,not_or] at hnd
    exact⟨hnd.1.2.1,fun e=>hnd.1.2.1 e.symm,hnd.2.1.1,fun e=>hnd.2.1.1 e.symm⟩
   obtain⟨n4,n5,n6,n7⟩:=hnd2
   simp only[go_sem,List.cons_append,List.nil_append]
   refine W2 m1 m2 ?_
   repeat(first|(with_reducible refine AWp.seq ?_)|(with_reducible refine AWp.block ?_))
   refine AWp.mix mixed [0,2,3,4] (.step 1 (.step 5 (.step 6 (.step 7 (.step 8 (.step 9 (.step 10 .done .done) .done) .done) .done) .done) .done) (.step 5 (.step 1 (.step 6 (.step 7 (.step 8 (.step 9 (.step 10 .done .done) .done) .done) .done) .done) (.step 6 (.step 1 (.step 7 (.step 8 (.step 9 (.step 10 .done .done) .done) .done) .done) (.step 7 (.step 1 (.step 8 (.step 9 (.step 10 .done .done) .done) .done) .done) .done)) .done)) .done)) (by kernel_rfl) ?_;simp only[go_sem,m1,m2]
   refine Sd ?_
   refine GCall.use (ai ((nW n:Nat):Int)) (fun _=>⟨At,(hw).val.use ⟨rfl,rfl⟩⟩) ?_;simp only[go_sem,m1,m2]
   repeat' (first|(with_reducible refine And.intro ?_ ?_))
   all_goals first|omega|skip
   all_goals
    intro b g1 g2 g3 g4
    have k2:¬b3=b:=by omega
    have k3:¬bo=b:=by omega
    have k4:¬b=bo:=by omega
    try simp only[go_sem,k2,k3,k4,n4,n5,n6,n7]
    refine Sd ?_
    intro b' cap' g5
    intros
    have k1:¬b3=b':=by omega
    have k6:¬b2=b':=by omega
    simp only[go_sem,k1,k2,k3,k4,k6,n4,n5,n6,n7]
    refine Sd ?_
    refine⟨_,List.Sublist.refl _,_,_,perm_2_2 _ _ _ _ _,?_⟩
    exact FamW.snoc hFr (hrep b) (by rw[← hys];exact AppSt.snoc _ _ _ rfl) (.refl _)
 ·rintro vs L - ⟨rfl,v,Lf,hL,hF⟩
  refine AWp.perm hL ?_
  rcases hF.shape with rfl|⟨bo,co,rfl⟩
  all_goals
   simp only[go_sem]
   refine W2 m1 m2 ?_
   refine ret_sub Lf (.cons _ (List.sublist_cons_self _ _)) ?_
   simp only[go_sem,m1,m2]
   exact⟨_,rfl,hF⟩
end Go.AL
end
section
namespace Go.AL
open Go Go.RowKit
def mixW (ops:Array Oper) (qs:List Nat):Bool :=
 ascend qs && qs.all (fun q=>decide (q<ops.size)) &&
 (List.range ops.size).all fun i=>match ops[i]? with
  | some o=>(predsOf o).all (fun p=>decide (p<i)) &&
    qs.all (fun q=>match dstOf ops q with
     | some d=>(!(o.looksAt ops).contains d || (predsOf o).contains q) && (i == q || !(o.dst == some d))
     | none=>true)
  | none=>true
section
variable {C:Cfg} {ops:Array Oper} {L:AHeap}
theorem mixW_at {qs:List Nat} (h:mixW ops qs=true) {i:Nat} {o:Oper} (hi:ops[i]?=some o) :
  (∀p ∈ predsOf o,p<i)∧(∀q ∈ qs,∀d,dstOf ops q=some d→(d ∈ o.looksAt ops→q ∈ predsOf o)∧(i ≠ q→o.dst ≠ some d)):=by
 unfold mixW at h
 simp only[Bool.and_eq_true,List.all_eq_true] at h
 have hlt:i<ops.size:=(Array.getElem?_eq_some_iff.1 hi).1
 have h3:=h.2 i (List.mem_range.2 hlt)
 rw[hi] at h3
 simp only[Bool.and_eq_true,List.all_eq_true,decide_eq_true_eq] at h3
 refine⟨h3.1,fun q hq d hd => ?_⟩
 have:=h3.2 q hq
 rw[hd] at this
 simp only[Bool.and_eq_true,Bool.or_eq_true,Bool.not_eq_true',List.contains_eq_mem,decide_eq_true_eq,decide_eq_false_iff_not,beq_iff_eq,beq_eq_false_iff_ne,ne_eq] at this
 exact⟨fun hm=>this.1.resolve_left (fun hn=>hn hm),fun hne=>this.2.resolve_left hne⟩
theorem mixW_asc {qs:List Nat} (h:mixW ops qs=true):ascend qs=true∧∀q ∈ qs,q<ops.size:=by
 unfold mixW at h
 simp only[Bool.and_eq_true,List.all_eq_true,decide_eq_true_eq] at h
 exact h.1
theorem aqWRun_facts {qs0:List Nat} (hm:mixW ops qs0=true) (hok:ops.toList.all (operOk C.N)=true):∀(qs:List Nat) (ρ:Env) (K:Env→Prop),(∀q ∈ qs,q ∈ qs0)→ascend qs=true→aqLRun C ops.toList L qs K ρ →
  ∃ρq,K ρq∧(∀q ∈ qs,QFactL C ops ρq L q)∧∀s,(∀q ∈ qs,dstOf ops q ≠ some s)→get ρq s=get ρ s
 | [],ρ,K,_,_,h=>⟨ρ,h,fun q hq=>(by cases hq),fun _ _=>rfl⟩
 | i :: r,ρ,K,hsub,hasc,h=>by
  obtain⟨hlt,hasc'⟩:=ascend_cons hasc
  simp only[aqLRun] at h
  cases ho:ops.toList[i]? with
  | none=>rw[ho] at h;exact h.elim
  | some o =>
   rw[ho] at h
   have ho':ops[i]?=some o:=by simpa using ho
   obtain⟨x,hy,hK⟩:=aqL_yields ho' (List.all_eq_true.1 hok o (List.mem_of_getElem? ho)) h
   obtain⟨ρq,h1,h2,h3⟩:=aqWRun_facts hm hok r _ K (fun q hq=>hsub q (List.mem_cons_of_mem _ hq)) hasc' hK
   obtain⟨p1,p2⟩:=mixW_at hm ho'
   have hself:∀d,o.dst=some d→d ∉ o.looksAt ops:=fun d hd hm'=>by
    have:=(p2 i (hsub i List.mem_cons_self) d (by simp [dstOf,ho',hd])).1 hm'
    exact absurd (p1 i this) (Nat.lt_irrefl i)
   refine⟨ρq,h1,fun q hq => ?_,fun s hs => ?_⟩
   ·rcases List.mem_cons.1 hq with rfl|hq
    ·refine⟨o,x,ho',hy.of_agree fun t ht => ?_,fun d hd => ?_⟩
     ·rw[h3 t fun q' hq' he => ?_,get_put,if_neg fun he=>hself t he ht]
      have:=(p2 q' (hsub q' (List.mem_cons_of_mem _ hq')) t he).1 ht
      have:=p1 q' this;have:=hlt q' hq';omega
     ·rw[h3 d fun q' hq' he => ?_,get_put,if_pos hd]
      exact(p2 q' (hsub q' (List.mem_cons_of_mem _ hq')) d he).2 (by have:=hlt q' hq';omega) hd
    ·exact h2 q hq
   ·rw[h3 s fun q hq=>hs q (List.mem_cons_of_mem _ hq),get_put,if_neg]
    have:=hs i List.mem_cons_self
    simpa [dstOf,ho'] using this
end
def tailOk (ops:Array Oper) (qs:List Nat) (z:Nat):Bool :=
 mixW ops qs && !(qs.contains z) && ((List.range ops.size).all fun i=>qs.contains i || i == z) &&
 (match ops[z]? with|some o=>o.guard.isNone && qs.all (fun q=>(predsOf o).contains q)|none=>false)
section
variable {C:Cfg} {ops:Array Oper} {L:AHeap}
theorem rdw_sound {qs:List Nat} {z:Nat} {oz:Oper} (hm:mixW ops qs=true) (hall:∀i,i<ops.size→i ∈ qs∨i=z) (hz:z ∉ qs) (hoz:ops[z]?=some oz) (hpz:∀q ∈ qs,q ∈ predsOf oz)
  {K:ARes} {n:Nat} {w0:World} {M A0:Foot} {Q:Exit→Act→World→Prop} (hQ:∀a w,post w0 M A0 C.N K a w→Q .normal a w) {ρT:Env} (hK:GOp C ops z ρT L K) :
  ∀(f:Nat) (listed:Array Bool) (a:Act) (w:World),listed.size=ops.size→listed.getD z true=false →
   (∀l:List Nat,l.Nodup→(∀i ∈ l,listed.getD i true=false)→l.length≤f) →
   (∀q ∈ qs,listed.getD q true=false→QFactL C ops ρT L q)→St w0 M A0 C.N (mask ops qs listed ρT) L a w →
   wpAnyIn (Fw C.r) n C.P .any ops Q f listed a w:=by
 have allOf:∀listed:Array Bool,listed.size=ops.size→Region.ready .any ops listed=[]→∀i,listed.getD i true=true:=by
  intro listed hsz hr i
  induction i using Nat.strongRecOn with
  | _ i ih =>
   cases hi:listed.getD i true with
   | true=>rfl
   | false =>
    exfalso
    have hlt:i<ops.size:=by
     rw[← hsz]
     by_cases h:i<listed.size
     ·exact h
     ·simp [Array.getD,h] at hi
    have ho:ops[i]?=some ops[i]:=Array.getElem?_eq_getElem hlt
    have:i ∈ Region.ready .any ops listed:=mem_ready.2 ⟨hi,_,ho,fun e he hb=>by
     have hp:=(mixW_at hm ho).1 e.on (List.mem_map.2 ⟨e,List.mem_filter.2 ⟨by simpa using he,hb⟩,rfl⟩)
     exact getD_ft (by omega) (ih _ hp)⟩
    rw[hr] at this;cases this
 intro f
 induction f with
 | zero =>
  intro listed a w hsz hlz hcnt hfact hs
  exfalso
  have:=hcnt [z] (by simp) (fun i hi=>by simp at hi;subst hi;exact hlz)
  simp at this
 | succ f ih =>
  intro listed a w hsz hlz hcnt hfact hs
  refine⟨fun hr=>(by have:=allOf listed hsz hr z;rw[hlz] at this;cases this),fun i hi => ?_⟩
  obtain⟨hun,o,ho,hpre⟩:=mem_ready.1 hi
  have hlt:i<ops.size:=(Array.getElem?_eq_some_iff.1 ho).1
  by_cases ez:i=z
  ·subst ez
   rw[ho] at hoz;cases hoz
   have hql:∀q ∈ qs,listed.getD q true=true:=fun q hq=>by
    obtain⟨e,he,rfl⟩:=List.mem_map.1 (hpz q hq)
    obtain⟨he1,he2⟩:=List.mem_filter.1 he
    exact getD_tf (hpre e (by simpa using he1) he2)
   have hs':St w0 M A0 C.N ρT L a w:=st_forget hs fun s => .inr (mask_out fun q hq hl _=>by rw[hql q hq] at hl;cases hl).symm
   refine wpOpIn_mono ?_ (hK n w0 M A0 a w Q hs')
   intro a' w' hp
   have hready:Region.ready .any ops (listed.setIfInBounds i true)=[]:=by
    cases hh:Region.ready .any ops (listed.setIfInBounds i true) with
    | nil=>rfl
    | cons j r =>
     exfalso
     have hj:j ∈ Region.ready .any ops (listed.setIfInBounds i true):=by rw[hh];exact List.mem_cons_self
     obtain⟨h1,oj,hoj,_⟩:=mem_ready.1 hj
     have hjlt:j<ops.size:=(Array.getElem?_eq_some_iff.1 hoj).1
     by_cases e:j=i
     ·subst e
      simp [Array.getD,show j<listed.size by omega] at h1
     ·rw[getD_set_ne true (Ne.symm e)] at h1
      rw[hql j ((hall j hjlt).resolve_right e)] at h1;cases h1
   cases f with
   | zero=>exact⟨hready,hQ _ _ hp⟩
   | succ f=>exact⟨fun _=>hQ _ _ hp,fun j hj=>by rw[hready] at hj;cases hj⟩
  ·have hq:=(hall i hlt).resolve_right ez
   obtain⟨m1,m2⟩:=mixW_at hm ho
   have hlooks:∀t ∈ o.looksAt ops,get (mask ops qs listed ρT) t=get ρT t:=fun t ht=>mask_out fun q hq hl hd=>by
    have hp:=(m2 q hq t hd).1 ht
    obtain⟨e,he,rfl⟩:=List.mem_map.1 hp
    obtain⟨he1,he2⟩:=List.mem_filter.1 he
    have:=getD_tf (hpre e (by simpa using he1) he2)
    rw[hl] at this;cases this
   have hcnt':∀l:List Nat,l.Nodup→(∀j ∈ l,(listed.setIfInBounds i true).getD j true=false)→l.length≤f:=fun l hn hl=>by
    have hil:i ∉ l:=fun h=>by
     have:=hl i h
     simp [Array.getD,show i<listed.size by omega] at this
    have:=hcnt (i :: l) (List.nodup_cons.2 ⟨hil,hn⟩) (fun j hj=>by
     rcases List.mem_cons.1 hj with rfl|hj
     ·exact hun
     ·have:=hl j hj
      have hne:i ≠ j:=fun e=>hil (e ▸ hj)
      rwa [getD_set_ne true hne] at this)
    simp at this;omega
   have hset:∀j,j ≠ i→(listed.setIfInBounds i true).getD j true=listed.getD j true:=fun j hj=>getD_set_ne true (Ne.symm hj)
   obtain⟨o',x,ho',hy,hgx⟩:=hfact i hq hun
   rw[ho] at ho';cases ho'
   refine wpOpIn_mono ?_ (hy _ hlooks n w0 M A0 a w Q hs)
   rintro a' w' ⟨ρ2,L2,⟨rfl,rfl⟩,hs2⟩
   refine ih _ a' w' (by simpa using hsz) (by rw[hset z (Ne.symm ez)];exact hlz) hcnt' (fun q hq' hl=>hfact q hq' (by
    by_cases e:q=i
    ·subst e;exact hun
    ·rwa [hset q e] at hl)) (st_forget hs2 fun s => ?_)
   rcases mask_or (ops:=ops) qs (listed.setIfInBounds i true) ρT s with ⟨h1,_⟩|⟨h1,h2⟩
   ·exact .inl h1
   ·refine .inr ?_
    rw[h1,get_put]
    by_cases hd:o.dst=some s
    ·rw[if_pos hd];exact hgx s hd
    ·rw[if_neg hd,mask_out fun q hq' hl hds => ?_]
     by_cases e:q=i
     ·subst e;exact hd (by simpa [dstOf,ho] using hds)
     ·exact h2 q hq' (by rw[hset q e];exact hl) hds
end
def rdwK (C:Cfg) (all:List Oper) (z:Nat) (K:ARes) (L:AHeap) (ρ:Env):Prop:=match all[z]? with|some o=>aopX C o ρ L K|none=>False
theorem AWp.readW {C:Cfg} {id:Nat} {ops:Array Oper} {Q:AQ} {ρ:Env} {L:AHeap} (hmx:C.P.follows .mixedOrders=true) (qs:List Nat) (z:Nat) (hT:tailOk ops qs z=true) (h:aqLRun C ops.toList L qs (rdwK C ops.toList z (Q .normal) L) ρ) :
  AWp C (.region id ops true) Q ρ L:=fun hok n w0 M A0 a w hs=>by
 simp only[tailOk,Bool.and_eq_true,List.all_eq_true,Bool.not_eq_true',Bool.or_eq_true,beq_iff_eq,List.contains_eq_mem,decide_eq_true_eq,decide_eq_false_iff_not] at hT
 obtain⟨⟨⟨hm,hz⟩,hal⟩,hzo⟩:=hT
 have hasc:=mixW_asc hm
 obtain⟨ρq,hK,hF,hother⟩  :=aqWRun_facts hm hok qs ρ _ (fun _ h=>h) hasc.1 h
 refine wpIn_region_any hmx ?_
 obtain⟨A,ds,hs'⟩:=st_iff.1 hs
 cases hoz:ops[z]? with
 | none=>rw[hoz] at hzo;cases hzo
 | some oz =>
  rw[hoz] at hzo
  simp only[Bool.and_eq_true,List.all_eq_true,List.contains_eq_mem,decide_eq_true_eq,Option.isNone_iff_eq_none] at hzo
  have hzl:ops.toList[z]?=some oz:=by simpa using hoz
  unfold rdwK at hK
  rw[hzl] at hK
  have hoo:=List.all_eq_true.1 hok oz (List.mem_of_getElem? hzl)
  have hzlt:z<ops.size:=(Array.getElem?_eq_some_iff.1 hoz).1
  have hgo:GOp C ops z ρq L (Q .normal):=AOp.gop hoz hzo.1 (aop_sound (operOk_dst hoo) (operOk_def hoo) (aopX_aop hK))
  refine rdw_sound hm (fun i hi=>hal i (List.mem_range.2 hi)) hz hoz (fun q hq=>hzo.2 q hq) (K:=Q .normal) (fun a w ⟨ρ',L',h1,h2⟩=>⟨ρ',L',h1,h2⟩) hgo ops.size _ a _ (by simp) (by simp [Array.getD,hzlt]) ?_ (fun q hq _=>hF q hq) (st_forget (st_iff.2 ⟨A,ds,hs'.drew⟩) fun s => ?_)
  ·intro l hn hl
   have:=List.Nodup.length_le_of_subset hn (l₂:=List.range ops.size) (fun i hi=>by
    have:=hl i hi
    rw[List.mem_range]
    by_cases h:i<ops.size
    ·exact h
    ·simp [Array.getD,h] at this)
   simpa using this
  ·rcases mask_or (ops:=ops) qs (Array.replicate ops.size false) ρq s with ⟨h1,_⟩|⟨h1,h2⟩
   ·exact .inl h1
   ·refine .inr ?_
    rw[h1]
    exact hother s fun q hq hd=>h2 q hq (by simp [Array.getD,hasc.2 q hq]) hd
attribute [go_sem] rdwK
end Go.AL
end
section
namespace Go.AL
open Go Go.RowKit
set_option maxRecDepth 4000
theorem relation_has (n:Nat) (hn:n≤512) (F:Nat→Nat→Bool) (i j:Nat) (hi:i<n) (hj:j<n):PC Proofs.Tryz.prog 133 [aRelN n F,ai i,ai j] (ab (F i j)):=by
 have hk:j / 64<nW n:=by unfold nW;omega
 have hg:=wds_get (n:=n) (f:=F i) hk
 have hb:=has_bit (x:=wordOf (F i) (j / 64) n) (b:=j % 64) word_big (by omega)
 rw[bit_word (by omega),show 64 * (j / 64)+j % 64=j by omega,decide_eq_true hj,Bool.true_and] at hb
 have hq:=quo64 j (by omega)
 have hr:=rem64 j
 have hln:=wds_len n (F i)
 have hnn:0≤((j % 64:Nat):Int):=by omega
 have hkk:((j / 64:Nat):Int).toNat=j / 64:=by omega
 have hlen:((List.range n).map fun i=>aNs n (F i)).length=n:=by simp
 have hgi:((List.range n).map fun i=>aNs n (F i)).getD i .any=aNs n (F i):=map_range_getD hi _
 rw[aNs_eq n (F i)] at hgi
 rw[aRelN_eq]
 generalize (wordsF (F i) n n).map (fun w:Nat=>au64 (w:Int))=W at *
 generalize (List.range n).map (fun i=>aNs n (F i))=R at *
 generalize ((wordOf (F i) (j / 64) n:Nat):Int)=w0 at *
 generalize hkd:j / 64=k at *
 generalize hrr:((j % 64:Nat):Int)=r at *
 rw[← hb]
 refine PC.enter 22 [.tmp 6] [3] Proofs.Tryz.func133 rfl rfl rfl rfl rfl (by simp) (AWp.of ?_);simp only[go_sem]
 repeat(first|((with_reducible refine AWp.ofC ?_ ?_);exact rfl;simp only[go_sem,hq,hr,hln,hg,hkk,hnn,hgi,hlen])|((with_reducible refine an ?_ ?_);exact Au))
 refine ret_eq ?_;simp only[go_sem]
theorem relation_put (bo cap bp cp n N:Nat) (V W:List AV) (i j:Nat) (hi:i<n) (hV:V.length=n) (hg:V.getD i .any = .agg [ai N,.ls bp 1 0 W.length cp]) (w0:Nat) (hw0:w0<2 ^ 64) (hj:j / 64<W.length) (hjj:j≤1000) (hn:¬bo=bp) (hgw:W.getD (j / 64) .any=au64 (w0:Nat)) :
  MCalls Proofs.Tryz.prog 117 [.agg [.ls bo 2 0 n cap],ai i,ai j] [(bo,.row 38 2 V cap),(bp,.row 64 1 W cp)]
   fun r L=>r = .tup []∧L=[(bo,.row 38 2 V cap),(bp,.row 64 1 (W.set (j / 64) (au64 ((w0 ||| 2 ^ (j % 64):Nat):Int))) cp)]:=by
 have hq:=quo64 j (by omega)
 have hr:=rem64 j
 have hnn:0≤((j % 64:Nat):Int):=by omega
 have hkk:((j / 64:Nat):Int).toNat=j / 64:=by omega
 have hsh:=shl_bit (b:=j % 64) (Nat.mod_lt j (by decide))
 have hcv:IntKind.u64.wrap ((j % 64:Nat):Int)=((j % 64:Nat):Int):=wrap_u64n (Nat.lt_of_lt_of_le (Nat.mod_lt j (by decide)) (by decide))
 have hor:=or_nat (x:=w0) (y:=2 ^ (j % 64)) hw0 (pow_b (Nat.mod_lt j (by decide)))
 have n1:¬bp=bo:=fun e=>hn e.symm
 clear hw0
 generalize ((w0 ||| 2 ^ (j % 64):Nat):Int)=w2 at *
 generalize ((2 ^ (j % 64):Nat):Int)=w1 at *
 generalize ((w0:Nat):Int)=w at *
 generalize hkd:j / 64=k at *
 generalize hrr:((j % 64:Nat):Int)=r at *
 refine MCalls.enter' 21 [] [3] Proofs.Tryz.func117 rfl rfl rfl rfl rfl (by simp) (AWp.of ?_);simp only[go_sem]
 refine Wk ?_
 repeat(first|(with_reducible refine AWp.seq ?_)|(with_reducible refine AWp.block ?_))
 refine AWp.readW mixed [0,1,2,3,4,5,6,7,8,9,10,11,12,13,14] 15 (by kernel_rfl) ?_;simp only[go_sem,hq,hr,hnn,hkk,hsh,hcv,hor,hg,hgw,hV,hn,n1]
 refine Sd ?_
 refine ret_sub [(bo,.row 38 2 V cap),(bp,.row 64 1 (W.set k (au64 w2)) cp)] (List.Sublist.refl _) ?_
 simp only[go_sem]
abbrev NP:=Nat × Nat
def aNP (x:NP):AV:=.agg [ai x.1,ai x.2]
def prRow (n:Nat) (F:Nat→Nat→Bool) (i:Nat):List NP:=((List.range n).filter (F i)).map fun j=>(i,j)
def prL (n:Nat) (F:Nat→Nat→Bool) (k:Nat):List NP:=(List.range k).flatMap (prRow n F)
theorem prL_succ (n:Nat) (F:Nat→Nat→Bool) (k:Nat):prL n F (k+1)=prL n F k ++ prRow n F k:=by
 unfold prL
 rw[List.range_succ,List.flatMap_append];simp
theorem prL_mem {n:Nat} {F:Nat→Nat→Bool} {k:Nat} {x:NP} : x ∈ prL n F k↔x.1<k∧x.2<n∧F x.1 x.2=true:=by
 unfold prL prRow
 rw[List.mem_flatMap]
 constructor
 ·rintro⟨i,hi,hx⟩
  obtain⟨j,hj,rfl⟩:=List.mem_map.1 hx
  obtain⟨h1,h2⟩:=List.mem_filter.1 hj
  exact⟨List.mem_range.1 hi,List.mem_range.1 h1,h2⟩
 ·rintro⟨h1,h2,h3⟩
  exact⟨x.1,List.mem_range.2 h1,List.mem_map.2 ⟨x.2,List.mem_filter.2 ⟨List.mem_range.2 h2,h3⟩,rfl⟩⟩
def prRowK (F:Nat→Nat→Bool) (i k:Nat):List NP:=((List.range k).filter (F i)).map fun j=>(i,j)
theorem prRowK_succ (F:Nat→Nat→Bool) (i k:Nat):prRowK F i (k+1)=prRowK F i k ++ if F i k=true then [(i,k)] else []:=by
 unfold prRowK
 rw[List.range_succ,List.filter_append,List.map_append]
 congr 1
 by_cases h:F i k=true
 ·rw[if_pos h,List.filter_cons_of_pos h];rfl
 ·rw[if_neg h,List.filter_cons_of_neg h];rfl
theorem prL_len (n:Nat) (F:Nat→Nat→Bool):∀k,(prL n F k).length≤k * n
 | 0=>by simp [prL]
 | k+1=>by
  have ih:=prL_len n F k
  have h1:(prRow n F k).length≤n:=by
   unfold prRow
   rw[List.length_map]
   exact Nat.le_trans (List.length_filter_le _ _) (by rw[List.length_range];exact Nat.le_refl _)
  rw[prL_succ,List.length_append,Nat.succ_mul]
  omega
set_option maxHeartbeats 1000000 in
theorem relation_all (n:Nat) (hn:n≤512) (F:Nat→Nat→Bool):PC Proofs.Tryz.prog 116 [aRelN n F] (.sl 2 ((prL n F n).map aNP)):=by
 have hh:=fun i j hi hj=>relation_has n hn F i j hi hj
 have hlen:((List.range n).map fun i=>aNs n (F i)).length=n:=by simp
 have hpl:=fun k=>prL_len n F k
 rw[aRelN_eq] at *
 generalize (List.range n).map (fun i=>aNs n (F i))=R at *
 refine PC.enter 31 [.tmp 2] [1,26] Proofs.Tryz.func116 rfl rfl rfl rfl rfl (by simp) (AWp.of ?_);simp only[go_sem]
 refine W1 hlen ?_
 refine AWp.range' n [3] [1,8] (fun i vs L=>∃v,vs=[v]∧AppSt 161 2 ((prL n F i).map aNP) v L) (by omega) rfl rfl rfl ⟨anil,rfl,.nil⟩ ?_ ?_
 ·rintro i vs L hi - ⟨v,rfl,hA⟩
  have hfo:=hA.fo
  simp only[go_sem]
  refine W2 hlen hfo ?_
  refine AWp.range' n [3] [1,4,8,9,14] (fun j vs L=>∃v,vs=[v]∧AppSt 161 2 ((prL n F i ++ prRowK F i j).map aNP) v L) (by omega) rfl rfl rfl ⟨v,rfl,by unfold prRowK;simpa using hA⟩ ?_ ?_
  ·rintro j vs L hj - ⟨v,rfl,hA⟩
   have hij:=hh i j hi hj
   have hs:=prRowK_succ F i j
   have hl1:=hpl i
   have hl2:(prRowK F i j).length≤j:=by
    unfold prRowK
    rw[List.length_map]
    exact Nat.le_trans (List.length_filter_le _ _) (by rw[List.length_range];exact Nat.le_refl _)
   have hl3:i * n≤512 * 512:=Nat.mul_le_mul (by omega) hn
   have hfo:=hA.fo
   have hyl:((prL n F i ++ prRowK F i j).map aNP).length≤1000000:=by rw[List.length_map,List.length_append];omega
   cases hf:F i j with
   | false =>
    rw[hf,if_neg (by decide),List.append_nil] at hs
    rw[hf] at hij
    rw[hs]
    simp only[go_sem]
    refine W1 hfo ?_
    refine Sd ?_
    refine(hij).val.use ?_;simp only[go_sem,hfo]
    refine W1 hfo ?_
    exact⟨_,List.Sublist.refl _,_,rfl,hA⟩
   | true =>
    rw[hf,if_pos rfl] at hs
    rw[hf] at hij
    have hsm:(prL n F i ++ prRowK F i (j+1)).map aNP=(prL n F i ++ prRowK F i j).map aNP ++ [.agg [ai i,ai j]]:=by rw[hs,← List.append_assoc,List.map_append];rfl
    rw[hsm]
    generalize (prL n F i ++ prRowK F i j).map aNP=ys at *
    rcases hA.inv with ⟨e1,rfl,rfl⟩|⟨bq,cq,rfl,rfl⟩
    ·simp only[go_sem]
     refine Wk ?_
     refine Sd ?_
     refine(hij).val.use ?_;simp only[go_sem]
     refine Wk ?_
     intro b' cap' g8
     exact⟨_,List.Sublist.refl _,_,rfl,by rw[e1];exact .row _ _ _⟩
    ·simp only[go_sem]
     refine Wk ?_
     refine Sd ?_
     refine(hij).val.use ?_;simp only[go_sem]
     refine Wk ?_
     refine Sd ?_
     intro b' cap' g8
     exact⟨_,List.Sublist.refl _,_,rfl,AppSt.snoc _ _ _ rfl⟩
  ·rintro vs L - ⟨v,rfl,hA⟩
   have e:prL n F i ++ prRowK F i n=prL n F (i+1):=(prL_succ n F i).symm
   rw[e] at hA
   have hfo:=hA.fo
   simp only[go_sem,hfo]
   refine W1 hfo ?_
   exact⟨_,List.Sublist.refl _,_,rfl,hA⟩
 ·rintro vs L - ⟨v,rfl,hA⟩
  generalize (prL n F n).map aNP=ys at *
  rcases hA.inv with ⟨e3,rfl,rfl⟩|⟨bq,cap,rfl,rfl⟩
  ·simp only[go_sem]
   refine Wk ?_
   refine ret_view [] ?_;simp only[go_sem]
   rw[e3]
   exact .nil 2
  ·simp only[go_sem]
   refine Wk ?_
   refine ret_view [true] ?_;simp only[go_sem]
   exact Vw.ofLs (t:=161) (cap:=cap) (if_pos rfl) rfl
theorem perm_1_2 {α:Type} (x y z:α) (R:List α):(x :: y :: z :: R).Perm (y :: z :: x :: R):=(List.Perm.swap y x _).trans ((List.Perm.swap z x R).cons y)
theorem take_mem {α:Type} {l:List α} {k:Nat} (hk:k<l.length) (x:α):x ∈ l.take (k+1)↔x ∈ l.take k∨x=l[k]:=by
 rw[List.take_succ_eq_append_getElem hk,List.mem_append,List.mem_singleton]
set_option maxHeartbeats 1000000 in
theorem relation_Inverse (n:Nat) (hn:n≤512) (F:Nat→Nat→Bool):PC Proofs.Tryz.prog 92 [aRelN n F] (.tup [aRelN n fun i j=>F j i,ai 0]):=by
 refine MCalls.pcN (K:=fun r L=>∃v,r = .tup [.agg [v],ai 0]∧FamW 38 64 n n (fun q=>wdV n fun j=>F j q) v L) ?_ (fun r L hnd ⟨v,e,hF⟩=>by
  subst e
  exact .mkTup (Vws.cons (.mkAgg (Vws.cons (hF.vw hnd) .nil)) (Vws.refl _)))
 have h1:=relation_Valid n hn F
 have h2:=relation_empty n hn
 have h3:=relation_all n hn F
 have hlen:((List.range n).map fun i=>aNs n (F i)).length=n:=by simp
 have hpl:=prL_len n F n
 have hnn:n * n≤512 * 512:=Nat.mul_le_mul hn hn
 have hlm:((prL n F n).map aNP).length=(prL n F n).length:=List.length_map _
 have hgt:=fun k (hk:k<(prL n F n).length)=>getD_map (f:=aNP) hk
 rw[aRelN_eq] at *
 generalize (List.range n).map (fun i=>aNs n (F i))=R at *
 generalize hPL:(prL n F n).map aNP=PL at *
 refine MCalls.enter' 30 [.cell 2 32,.tmp 3] [1,4,6] Proofs.Tryz.func92 rfl rfl rfl rfl rfl (by simp) (AWp.of ?_);simp only[go_sem]
 refine Wk ?_
 intro b2
 refine Wk ?_
 refine Sd ?_
 refine(h1).val.use ?_;simp only[go_sem]
 refine W1 hlen ?_
 refine(MVal.frame (Lm:=[]) (Lr:=[(b2,.row 32 1 [.agg [anil]] 1)]) h2.val).mono ?_
 rintro r L ⟨L1,rfl,v,rfl,hF⟩
 have hsh:=hF.shape
 rcases hsh with rfl|⟨bz,cz,rfl⟩
 ·have h0:=hF.nil0
  subst h0
  have hpe:PL=[]:=by rw[← hPL];rfl
  subst hpe
  have e0:(([]:List AV).length:Int)=0:=rfl
  simp only[go_sem]
  intro b4 _
  refine W1 e0 ?_
  refine Sd ?_
  refine(h3).val.use ?_;simp only[go_sem]
  refine W1 e0 ?_
  refine AWp.range' 0 [] [2,4,16,17] (fun k vs L=>vs=[]∧L=L1 ++ [(b2,.row 32 1 [.agg [anil]] 1)]) (by omega) rfl rfl rfl ⟨rfl,rfl⟩ (fun k vs L hk=>absurd hk (Nat.not_lt_zero _)) ?_
  rintro vs L - ⟨rfl,rfl⟩
  refine AWp.perm (L':=(b2,.row 32 1 [.agg [anil]] 1) :: L1) List.perm_append_comm ?_
  simp only[go_sem]
  refine Wk ?_
  refine ret_sub L1 (List.sublist_cons_self _ _) ?_
  simp only[go_sem]
  exact⟨_,rfl,hF.congr fun q hq=>by omega⟩
 ·simp only[go_sem]
  intro b4 _
  refine Wk ?_
  refine Sd ?_
  refine(h3).val.use ?_;simp only[go_sem]
  refine W1 hlm ?_
  refine AWp.range' PL.length [] [2,4,16,17] (fun k vs L=>vs=[]∧∃Lf,L.Perm ((b2,.row 32 1 [.agg [anil]] 1) :: Lf)∧FamW 38 64 n n (fun q=>wdV n fun j=>decide ((j,q) ∈ (prL n F n).take k)) (.ls bz 2 0 n cz) Lf) (by omega) rfl rfl rfl ⟨rfl,L1,List.perm_append_comm,hF.congr fun q hq=>wdV_congr fun j hj=>by simp⟩ ?_ ?_
  ·rintro k vs L hk - ⟨rfl,Lf,hL,hF⟩
   rw[hlm] at hk
   have hgk:=hgt k hk
   obtain⟨q1,q2,q3⟩:=prL_mem.1 (List.getElem_mem hk)
   have htk:=take_mem hk
   generalize (prL n F n)[k]=x at *
   obtain⟨a,b⟩:=x
   have q1:a<n:=q1
   have q2:b<n:=q2
   have hW:0<nW n:=by unfold nW;omega
   obtain⟨bo,cap,V,bp,cp,X,ev,hV,hg,hP,hcl⟩:=hF.one q2 (fun e=>by
    have:=congrArg List.length e
    rw[wdV_len] at this
    simp at this;omega)
   cases ev
   have hbt:a / 64<nW n:=by unfold nW;omega
   have hgw:=wds_get (n:=n) (f:=fun j=>decide ((j,b) ∈ (prL n F n).take k)) hbt
   have hwl:=wdV_len n fun j=>decide ((j,b) ∈ (prL n F n).take k)
   have hww:=words_with (n:=n) (f:=fun j=>decide ((j,b) ∈ (prL n F n).take k)) (g:=fun j=>decide ((j,b) ∈ (prL n F n).take (k+1))) q1 (fun j hj=>by
    rw[decide_eq_decide,htk,Prod.mk.injEq]
    exact⟨fun h=>h.elim id fun h=>absurd h.1 hj,.inl⟩) (by rw[decide_eq_true_iff,htk];exact .inr rfl)
   have hwo:∀q,q ≠ b→(wdV n fun j=>decide ((j,q) ∈ (prL n F n).take (k+1)))=wdV n fun j=>decide ((j,q) ∈ (prL n F n).take k):=fun q hq=>wdV_congr fun j _=>by
    rw[decide_eq_decide,htk,Prod.mk.injEq]
    exact⟨fun h=>h.elim id fun h=>absurd h.2 hq,.inl⟩
   have haN:aNP (a,b) = .agg [ai a,ai b]:=rfl
   rw[haN] at hgk
   refine AWp.perm (hL.trans ((hP.cons _).trans (perm_1_2 _ _ _ _))) (AWp.nodup fun hnd => ?_)
   have nn:¬bz=bp:=by
    simp only[List.map_cons,List.nodup_cons,List.mem_cons,not_or] at hnd
    exact hnd.1.1
   have hput:=relation_put bz cz bp cp n n V _ b a q2 hV hg _ word_big (by rw[hwl];exact hbt) (by omega) nn hgw
   change MCalls _ _ _ _ fun r L=>r = .tup []∧L=[(bz,_),(bp,.row 64 1 (((wordsF (fun j=>decide ((j,b) ∈ (prL n F n).take k)) n n).map fun w:Nat=>au64 (w:Int)).set (a / 64) _) cp)] at hput
   rw[← hww] at hput
   simp only[go_sem]
   refine W2 hgk hlm ?_
   refine⟨rfl,?_⟩
   intros
   refine W2 hgk hlm ?_
   refine(MVal.frame (Lm:=[(bz,_),(bp,_)]) (Lr:=(b2,.row 32 1 [.agg [anil]] 1) :: X) hput.val).mono ?_
   rintro r L ⟨L1,rfl,rfl,rfl⟩
   simp only[go_sem]
   refine Wk ?_
   refine⟨_,List.Sublist.refl _,_,(perm_1_2 _ _ _ _).symm,hcl _ _ hwo (by rw[wdV_len,wdV_len]) (.refl _)⟩
  ·rintro vs L - ⟨rfl,Lf,hL,hF⟩
   rw[hlm,List.take_length] at hF
   refine AWp.perm hL ?_
   simp only[go_sem]
   refine Wk ?_
   refine ret_sub Lf (List.sublist_cons_self _ _) ?_
   simp only[go_sem]
   exact⟨_,rfl,hF.congr fun q hq=>wdV_congr fun j hj=>by
    rw[Bool.eq_iff_iff,decide_eq_true_iff,prL_mem]
    exact⟨fun h=>⟨hj,hq,h⟩,fun h=>h.2.2⟩⟩
end Go.AL
end
