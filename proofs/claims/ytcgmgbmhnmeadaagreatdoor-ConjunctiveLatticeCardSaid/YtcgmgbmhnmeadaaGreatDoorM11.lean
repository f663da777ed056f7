/- Texts of this claim's proof: WBs, WSb, WAw, WSr, WOf, WWl, AlBr. No condition. -/
import Derived.Test.YtcgmgbmhnmeadaaGreatDoorM10
import Derived.Test.YtcgmgbmhnmeadaaGreatDoorM6
import Derived.Test.YtcgmgbmhnmeadaaGreatDoorM9
import Derived.Test.YtcgmgbmhnmeadaaGreatDoorM4
import Derived.ProofKit
section
namespace Go.AL
open Go Go.RowKit
set_option maxRecDepth 4000
def aStp (s:Stp):AV:=.agg [ai s.1,ai s.2.1,ai s.2.2]
def stepR (E:Elim) (now:Nat→Nat):AV:=match stepP E now with
 | none => .tup [(.agg [ai 0,ai 0,ai 0]),ab false]
 | some p => .tup [.agg [ai p,ai (now p),ai ((goF E now p:Int) - 1)],ab true]
def stepN (E:Elim) (now:Nat→Nat):Nat→Nat:=match stepP E now with
 | none=>now
 | some p=>updN now p (goF E now p)
theorem board_viewL {E:Elim} {now:Nat→Nat} {bb bn:Nat} {L:AHeap} (h1:lk L bb=some (.row 74 3 [.agg [.sl 1 (needT E),.sl 1 (okM E),.ls bn 1 0 E.n E.n]] 1)) (h2:lk L bn=some (.row 3 1 (dnA E.n now) E.n)) (xs:List AV) :
  Vws L (.lp bb 3 0 0 :: xs) (aBoard E now :: xs):=by
 unfold aBoard
 exact Vws.cons (.lp h1 rfl (Vws.cons (.mkAgg (Vws.cons (.refl _) (Vws.cons (.refl _) (Vws.cons (Vw.ofLs h2 (dnA_length _ _).symm) .nil)))) .nil).2) (Vws.refl _)
theorem board_step (E:Elim) (hE:SmE E) (now:Nat→Nat) (hI:InE E now) (bb bn:Nat) (hb:¬bn=bb):MCalls Proofs.Tryz.prog 43 [.lp bb 3 0 0] (boardL E now bb bn) fun r L=>r=stepR E now∧L=boardL E (stepN E now) bb bn:=by
 have hn:=hE.n
 have hb':¬bb=bn:=fun e=>hb e.symm
 have hr:∀p,p<E.n→exB E now p (now p)=true→(∀q,q<p→exB E now q (now q)=false)→stepR E now = .tup [.agg [ai p,ai (now p),ai ((goF E now p:Int) - 1)],ab true]∧stepN E now=updN now p (goF E now p):=fun p h1 h2 h3=>by
  have:stepP E now=some p:=find_range_of h1 h2 h3
  unfold stepR stepN;rw[this];exact⟨rfl,rfl⟩
 have hr0:(∀q,q<E.n→exB E now q (now q)=false)→stepR E now = .tup [(.agg [ai 0,ai 0,ai 0]),ab false]∧stepN E now=now:=fun h=>by
  have:stepP E now=none:=find_range_no h
  unfold stepR stepN;rw[this];exact⟨rfl,rfl⟩
 have hL:∀f,boardL E f bb bn=[(bb,.row 74 3 [.agg [.sl 1 (needT E),.sl 1 (okM E),.ls bn 1 0 E.n E.n]] 1),(bn,.row 3 1 (dnA E.n f) E.n)]:=fun f=>rfl
 generalize stepR E now=R at *
 generalize stepN E now=N' at *
 rw[hL]
 refine MCalls.enter' 57 [.cell 2 54,.tmp 3] [] Proofs.Tryz.func43 rfl rfl rfl rfl rfl (by simp) (AWp.of ?_);simp only[go_sem]
 intro b2 g2 g2'
 have n1:¬bb=b2:=by omega
 have n2:¬bn=b2:=by omega
 have n3:¬b2=bb:=by omega
 have n4:¬b2=bn:=by omega
 repeat(first|((with_reducible refine AWp.ofC ?_ ?_);exact rfl;simp only[go_sem,hb',n1])|((with_reducible refine an ?_ ?_);exact Au))
 have hbv:∀(z:ABlk) (xs:List AV),Vws ((b2,z) :: [(bb,.row 74 3 [.agg [.sl 1 (needT E),.sl 1 (okM E),.ls bn 1 0 E.n E.n]] 1),(bn,.row 3 1 (dnA E.n now) E.n)]) (.lp bb 3 0 0 :: xs) (aBoard E now :: xs):=fun z xs=>board_viewL (bn:=bn) (by simp only[lk,n1,if_false,if_true]) (by simp only[lk,n2,hb,if_false,if_true]) xs
 refine AWp.range' E.n [] [0,2,10,11] (fun p vs L=>L=[(b2,.row 54 3 [(.agg [ai 0,ai 0,ai 0])] 1),(bb,.row 74 3 [.agg [.sl 1 (needT E),.sl 1 (okM E),.ls bn 1 0 E.n E.n]] 1),(bn,.row 3 1 (dnA E.n now) E.n)]∧∀q,q<p→exB E now q (now q)=false) (by omega) rfl rfl rfl ⟨rfl,fun q hq=>by omega⟩ ?_ ?_
 ·rintro p vs L hp - ⟨rfl,hJ⟩
  have hgn:=dnA_get hp now
  have hIp:=hI p hp
  have hex:=board_excluded E hE now hI p (now p) hp hIp
  have htp:=hE.top p
  simp only[go_sem]
  refine Sd ?_
  refine AWp.of ?_;simp only[go_sem,hgn,hb,n2,dnA_length]
  refine Wk ?_
  refine(PC.view (hbv _ _) hex (Own.v _) ?_).val
  simp only[go_sem]
  refine Wk ?_
  refine⟨fun h1 => ?_,fun h1 => ?_⟩
  ·refine⟨_,List.Sublist.refl _,rfl,fun q hq => ?_⟩
   by_cases e:q=p
   ·subst e;exact h1
   ·exact hJ q (by omega)
  ·obtain⟨e1,e2⟩:=hr p hp h1 hJ
   have hgo:goF E now p=nextK (exB E now p) (E.top p) (now p+1):=nextK_hit hIp h1
   have hgk:=okM_get hp
   refine Wk ?_
   refine AWp.seq (AWp.block (AWp.loopN [6] [0,2,4,5] (fun m vs L=>L=[(b2,.row 54 3 [(.agg [ai 0,ai 0,ai 0])] 1),(bb,.row 74 3 [.agg [.sl 1 (needT E),.sl 1 (okM E),.ls bn 1 0 E.n E.n]] 1),(bn,.row 3 1 (dnA E.n now) E.n)]∧∃k:Nat,m=E.top p - k∧now p≤k∧k≤E.top p∧vs=[ai k]∧goF E now p=nextK (exB E now p) (E.top p) (k+1)) (E.top p - now p) ?_ ?_))
   ·exact⟨rfl,now p,rfl,Nat.le_refl _,hIp,rfl,hgo⟩
   rintro m vs L - ⟨rfl,k,rfl,h2,h3,rfl,h4⟩
   simp only[go_sem]
   refine Sd ?_
   refine AWp.of ?_;simp only[go_sem,hb',n1,hgk,okM_len,okL_len]
   refine Sd ?_
   refine GCall.use (ab (exB E now p (k+1))) ?_ ?_
   ·intro g
    have hk1:k+1≤E.top p:=by omega
    exact⟨At,(PC.view (hbv _ _) (board_excluded E hE now hI p (k+1) hp hk1) (Own.v _) ⟨rfl,rfl⟩).val⟩
   simp only[go_sem]
   refine Sd ?_
   refine Wk ?_
   refine⟨fun h5 h6 => ?_,fun h5 => ?_⟩
   ·refine Wk ?_
    exact⟨_,List.Sublist.refl _,_,by omega,rfl,k+1,rfl,by omega,by omega,by rw[show ((k+1:Nat):Int)=(k:Int)+1 by omega],by rw[h4,nextK_hit (by omega) h6]⟩
   ·have hk:goF E now p=k+1:=by
     rw[h4,nextK_stop]
     rintro⟨h7,h8⟩
     have:=h5 (by omega)
     rw[h8] at this;cases this
    have hgn2:((dnA E.n now).set p (ai ((k:Int)+1)))=dnA E.n (updN now p (goF E now p)):=dnA_set (by rw[updN_self,hk];omega) fun q hq=>updN_ne hq
    repeat(first|((with_reducible refine AWp.ofC ?_ ?_);exact rfl;simp only[go_sem,hb,hb',n1,n2,n3,n4,dnA_length,hgn])|((with_reducible refine an ?_ ?_);exact Au))
    rw[e1,e2]
    refine ret_sub [(bb,.row 74 3 [.agg [.sl 1 (needT E),.sl 1 (okM E),.ls bn 1 0 E.n E.n]] 1),(bn,.row 3 1 ((dnA E.n now).set p (ai ((k:Int)+1))) E.n)] (.cons _ (List.Sublist.refl _)) ?_
    simp only[go_sem]
    refine⟨?_,?_⟩
    ·rw[hk,show (((k+1:Nat):Int) - 1)=k by omega]
    ·rw[hL,← hgn2]
 ·rintro vs L - ⟨rfl,hJ⟩
  obtain⟨e1,e2⟩:=hr0 hJ
  simp only[go_sem]
  refine W6 hb hb' n1 n2 n3 n4 ?_
  rw[e1,e2]
  refine ret_sub [(bb,.row 74 3 [.agg [.sl 1 (needT E),.sl 1 (okM E),.ls bn 1 0 E.n E.n]] 1),(bn,.row 3 1 (dnA E.n now) E.n)] (.cons _ (List.Sublist.refl _)) ?_
  simp only[go_sem]
  rw[hL]
theorem inE_small {E:Elim} (hE:SmE E) {now:Nat→Nat} (hI:InE E now):∀q,q<E.n→now q≤1000001:=fun q hq=>by
 have:=hI q hq
 have:=hE.top q
 omega
theorem lostB_false {E:Elim} {now:Nat→Nat} (hI:InE E now):lostB E now=false:=List.any_eq_false.2 fun q hq=>by
 have:=hI q (List.mem_range.1 hq)
 simpa using this
theorem lostB_true {E:Elim} {now:Nat→Nat} {q:Nat} (hq:q<E.n) (h:E.top q<now q):lostB E now=true:=List.any_eq_true.2 ⟨q,List.mem_range.2 hq,decide_eq_true h⟩
theorem step_lost {E:Elim} {now:Nat→Nat} (hI:InE E now) {p:Nat} (h:stepP E now=some p) (hl:E.top p<goF E now p):lostB E (updN now p (goF E now p))=true∧∀q,q<E.n→E.top q≤1000000→updN now p (goF E now p) q≤1000001:=by
 obtain⟨h1,_,_,_,h5,_,_⟩:=step_inv hI h
 refine⟨lostB_true h1 (by rw[updN_self];exact hl),fun q hq ht => ?_⟩
 by_cases e:q=p
 ·subst e;rw[updN_self];omega
 ·rw[updN_ne e];have:=hI q hq;omega
theorem board_steps (E:Elim) (hE:SmE E) (now fin:Nat→Nat) (hI:InE E now) (st:List Stp) (l:Bool) (hR:RunR E now st fin l) (bb bn:Nat) (hb:¬bn=bb) :
  MCalls Proofs.Tryz.prog 25 [.lp bb 3 0 0] (boardL E now bb bn) fun r L=>∃Lq,AppSt 54 3 (st.map aStp) r Lq∧L=Lq ++ boardL E fin bb bn∧∀x ∈ Lq,x.1 ≠ bb∧x.1 ≠ bn:=by
 have hb':¬bb=bn:=fun e=>hb e.symm
 have hL:∀f,boardL E f bb bn=[(bb,.row 74 3 [.agg [.sl 1 (needT E),.sl 1 (okM E),.ls bn 1 0 E.n E.n]] 1),(bn,.row 3 1 (dnA E.n f) E.n)]:=fun f=>rfl
 have hvw:∀(f:Nat→Nat) (Lq:AHeap),(∀x ∈ Lq,x.1 ≠ bb∧x.1 ≠ bn)→Vws (Lq ++ boardL E f bb bn) [.lp bb 3 0 0] [aBoard E f]:=fun f Lq hq=>by
  have hlk:∀(b:Nat),(∀x ∈ Lq,x.1 ≠ b)→lk (Lq ++ boardL E f bb bn) b=lk (boardL E f bb bn) b:=fun b=>by
   clear hq
   induction Lq with
   | nil=>intro _;rfl
   | cons y Lq ih =>
    intro h
    obtain⟨yb,yx⟩:=y
    have h0:¬b=yb:=fun e=>h (yb,yx) (by simp) e.symm
    show (if b=yb then _ else _)=_
    rw[if_neg h0]
    exact ih fun x hx=>h x (List.mem_cons_of_mem _ hx)
  refine board_viewL (bn:=bn) ?_ ?_ []
  ·rw[hlk bb fun x hx=>(hq x hx).1,hL];simp only[lk,if_true]
  ·rw[hlk bn fun x hx=>(hq x hx).2,hL];simp only[lk,hb,if_false,if_true]
 rw[hL]
 refine MCalls.enter' 21 [.tmp 2] [4,18] Proofs.Tryz.func25 rfl rfl rfl rfl rfl (by simp) (AWp.of ?_);simp only[go_sem]
 refine Wk ?_
 rw[← hL]
 refine AWp.seq (AWp.block (AWp.loopN [3] [0] (fun m vs L=>∃(f:Nat→Nat) (acc st':List Stp) (v:AV) (Lq:AHeap),vs=[v]∧L=Lq ++ boardL E f bb bn∧AppSt 54 3 (acc.map aStp) v Lq∧(∀x ∈ Lq,x.1 ≠ bb∧x.1 ≠ bn)∧acc ++ st'=st∧(∀q,q<E.n→f q≤1000001) ∧
  ((InE E f∧RunR E f st' fin l∧m=roomE E f+1∧acc.length+roomE E f≤roomE E now)∨(lostB E f=true∧f=fin∧st'=[]∧m=0))) (roomE E now+1) ?_ ?_))
 ·exact⟨now,[],st,anil,[],rfl,rfl,.nil,by simp,rfl,inE_small hE hI,.inl ⟨hI,hR,rfl,by simp⟩⟩
 ·rintro m vs L - ⟨f,acc,st',v,Lq,rfl,rfl,hA,hq,hacc,hsm,hst⟩
  have hlo:=board_lost E hE f hsm
  have hvq:=hvw f Lq hq
  have hroom:roomE E now≤E.n * 1000001:=totS_le _ fun q hq=>by have:=hE.top q;omega
  have hEn:=hE.n
  rcases hst with ⟨hIf,hRf,rfl,hrf⟩|⟨hlt,rfl,rfl,rfl⟩
  ·rw[lostB_false hIf] at hlo
   have hstep:=board_step E hE f hIf bb bn hb
   simp only[go_sem]
   refine Sd ?_
   refine AWp.of ?_;simp only[go_sem]
   refine(PC.view hvq hlo (Own.v _) ?_).val
   simp only[go_sem]
   refine Wk ?_
   refine MVal.pass (Lf:=[]) (Li:=boardL E f bb bn) (Lr:=Lq) (by simpa using List.perm_append_comm) (Vws.refl _) hstep.val ?_
   rintro r L1 ⟨rfl,rfl⟩
   refine⟨Lq ++ boardL E (stepN E f) bb bn,List.perm_append_comm,?_⟩
   have hfo:=hA.fo
   cases hRf with
   | stop h =>
    have e1:stepR E fin = .tup [.agg [ai 0,ai 0,ai 0],ab false]:=by unfold stepR;rw[h]
    have e2:stepN E fin=fin:=by unfold stepN;rw[h]
    rw[List.append_nil] at hacc
    subst hacc
    rw[e1,e2]
    simp only[go_sem]
    intro b4 g4
    refine W1 hfo ?_
    refine ret_own ?_
    simp only[go_sem]
    exact⟨Lq,hA,rfl,hq⟩
   | @lost _ p h hl =>
    have hlt:=(step_inv hIf h).2.2.2.1
    have e1:stepR E f = .tup [.agg [ai p,ai (f p),ai ((goF E f p - 1:Nat):Int)],ab true]:=by
     unfold stepR;rw[h]
     dsimp only
     rw[show ((goF E f p - 1:Nat):Int)=(goF E f p:Int) - 1 by omega]
    have e2:stepN E f=updN f p (goF E f p):=by unfold stepN;rw[h]
    rw[e1,e2]
    have hap:∀(b' cap':Nat),AppSt 54 3 ((acc ++ [(p,f p,goF E f p - 1)]).map aStp) (.ls b' 3 0 (acc.length+1) cap') [(b',.row 54 3 (acc.map aStp ++ [.agg [ai p,ai (f p),ai ((goF E f p - 1:Nat):Int)]]) cap')]:=fun b' cap'=>by
     have:=AppSt.row (t:=54) (k:=3) b' ((acc ++ [(p,f p,goF E f p - 1)]).map aStp) cap'
     simpa [aStp] using this
    have hacl:(acc.map aStp).length=acc.length:=List.length_map _
    obtain⟨k1,k2⟩:=step_lost hIf h hl
    have hsm':∀q,q<E.n→updN f p (goF E f p) q≤1000001:=fun q hq=>k2 q hq (hE.top q)
    obtain⟨m',hm',hdj⟩:∃m',m'<roomE E f+1∧((InE E (updN f p (goF E f p))∧RunR E (updN f p (goF E f p)) [] (updN f p (goF E f p)) true∧m'=roomE E (updN f p (goF E f p))+1∧(acc ++ [(p,f p,goF E f p - 1)]).length+roomE E (updN f p (goF E f p))≤roomE E now)∨(lostB E (updN f p (goF E f p))=true∧updN f p (goF E f p)=updN f p (goF E f p)∧([]:List Stp)=[]∧m'=0)):=⟨0,by omega,.inr ⟨k1,rfl,rfl,rfl⟩⟩
    have hacc':(acc ++ [(p,f p,goF E f p - 1)]) ++ []=st:=by rw[List.append_assoc];exact hacc
    generalize hF:updN f p (goF E f p)=F at *
    generalize hY:acc.map aStp=ys at *
    rcases hA.inv with ⟨e3,rfl,rfl⟩|⟨bq,cap,rfl,rfl⟩
    ·simp only[go_sem,List.nil_append]
     intro b4 g4
     refine Wk ?_
     intro b' cap' g8 _
     have n1:¬b'=bb∧¬b'=bn:=by simp only[boardL,fresh] at g8;omega
     rw[e3] at hacl hap
     have h0:acc.length=0:=by simpa using hacl.symm
     have hap:=hap b' cap'
     rw[h0] at hap
     exact⟨_,List.Sublist.refl _,m',hm',F,_,[],_,[(b',_)],rfl,rfl,hap,fun x hx=>by simp only[List.mem_singleton] at hx;subst hx;exact n1,hacc',hsm',hdj⟩
    ·simp only[go_sem,List.cons_append,List.nil_append]
     intro b4 g4 g4'
     refine Wk ?_
     intro b' cap' g8 _
     have n1:¬b'=bb∧¬b'=bn:=by simp only[boardL,apart] at g8;omega
     have hap:=hap b' cap'
     rw[← hacl] at hap
     exact⟨_,List.Sublist.refl _,m',hm',F,_,[],_,[(b',_)],rfl,rfl,hap,fun x hx=>by simp only[List.mem_singleton] at hx;subst hx;exact n1,hacc',hsm',hdj⟩
   | @go _ _ p st'' _ h hl hr =>
    have hlt:=(step_inv hIf h).2.2.2.1
    have e1:stepR E f = .tup [.agg [ai p,ai (f p),ai ((goF E f p - 1:Nat):Int)],ab true]:=by
     unfold stepR;rw[h]
     dsimp only
     rw[show ((goF E f p - 1:Nat):Int)=(goF E f p:Int) - 1 by omega]
    have e2:stepN E f=updN f p (goF E f p):=by unfold stepN;rw[h]
    rw[e1,e2]
    have hap:∀(b' cap':Nat),AppSt 54 3 ((acc ++ [(p,f p,goF E f p - 1)]).map aStp) (.ls b' 3 0 (acc.length+1) cap') [(b',.row 54 3 (acc.map aStp ++ [.agg [ai p,ai (f p),ai ((goF E f p - 1:Nat):Int)]]) cap')]:=fun b' cap'=>by
     have:=AppSt.row (t:=54) (k:=3) b' ((acc ++ [(p,f p,goF E f p - 1)]).map aStp) cap'
     simpa [aStp] using this
    have hacl:(acc.map aStp).length=acc.length:=List.length_map _
    have hI':=inE_step hIf hl
    have hsm':∀q,q<E.n→updN f p (goF E f p) q≤1000001:=inE_small hE hI'
    have hrm:=(step_inv hIf h).2.2.2.2.2.2
    obtain⟨m',hm',hdj⟩:∃m',m'<roomE E f+1∧((InE E (updN f p (goF E f p))∧RunR E (updN f p (goF E f p)) st'' fin l∧m'=roomE E (updN f p (goF E f p))+1∧(acc ++ [(p,f p,goF E f p - 1)]).length+roomE E (updN f p (goF E f p))≤roomE E now)∨(lostB E (updN f p (goF E f p))=true∧updN f p (goF E f p)=fin∧st''=[]∧m'=0)):=⟨_,by omega,.inl ⟨hI',hr,rfl,by rw[List.length_append,List.length_singleton];omega⟩⟩
    have hacc':(acc ++ [(p,f p,goF E f p - 1)]) ++ st''=st:=by rw[List.append_assoc];exact hacc
    generalize hF:updN f p (goF E f p)=F at *
    generalize hY:acc.map aStp=ys at *
    rcases hA.inv with ⟨e3,rfl,rfl⟩|⟨bq,cap,rfl,rfl⟩
    ·simp only[go_sem,List.nil_append]
     intro b4 g4
     refine Wk ?_
     intro b' cap' g8 _
     have n1:¬b'=bb∧¬b'=bn:=by simp only[boardL,fresh] at g8;omega
     rw[e3] at hacl hap
     have h0:acc.length=0:=by simpa using hacl.symm
     have hap:=hap b' cap'
     rw[h0] at hap
     exact⟨_,List.Sublist.refl _,m',hm',F,_,st'',_,[(b',_)],rfl,rfl,hap,fun x hx=>by simp only[List.mem_singleton] at hx;subst hx;exact n1,hacc',hsm',hdj⟩
    ·simp only[go_sem,List.cons_append,List.nil_append]
     intro b4 g4 g4'
     refine Wk ?_
     intro b' cap' g8 _
     have n1:¬b'=bb∧¬b'=bn:=by simp only[boardL,apart] at g8;omega
     have hap:=hap b' cap'
     rw[← hacl] at hap
     exact⟨_,List.Sublist.refl _,m',hm',F,_,st'',_,[(b',_)],rfl,rfl,hap,fun x hx=>by simp only[List.mem_singleton] at hx;subst hx;exact n1,hacc',hsm',hdj⟩
  ·rw[hlt] at hlo
   have hfo:=hA.fo
   rw[List.append_nil] at hacc
   subst hacc
   simp only[go_sem]
   refine Sd ?_
   refine AWp.of ?_;simp only[go_sem]
   refine(PC.view hvq hlo (Own.v _) ?_).val
   simp only[go_sem]
   refine W1 hfo ?_
   refine ret_own ?_
   simp only[go_sem]
   exact⟨Lq,hA,rfl,hq⟩
def lclAt (z:Int→Pd→Int) (ts:List Pd) (p:Nat):Int:=match ts[p]? with|some t=>z p t|none=>0
noncomputable def conF (ps:List Pr) (ts:List Pd):Int :=
 if validF ps=true∧ts.length=ps.length then match (List.range ts.length).find? (fun p=>decide (lclAt (fun p t=>lclF ps p 0 t) ts p ≠ 0)) with|some p=>lclAt (fun p t=>lclF ps p 0 t) ts p|none=>0 else 1
theorem conF_bad {ps:List Pr} {ts:List Pd} (h:¬(validF ps=true∧ts.length=ps.length)):conF ps ts=1:=by unfold conF;rw[if_neg h]
theorem conF_hit {ps:List Pr} {ts:List Pd} (h:validF ps=true∧ts.length=ps.length) {p:Nat} (hp:p<ts.length) (h0:∀q (hq:q<ts.length),q<p→lclF ps q 0 ts[q]=0) (h1:lclF ps p 0 ts[p] ≠ 0):conF ps ts=lclF ps p 0 ts[p]:=by
 have e:∀q (hq:q<ts.length),lclAt (fun p t=>lclF ps p 0 t) ts q=lclF ps q 0 ts[q]:=fun q hq=>by unfold lclAt;rw[List.getElem?_eq_getElem hq]
 unfold conF
 rw[if_pos h,find_range_of hp (by rw[e p hp];exact decide_eq_true h1) fun q hq=>by rw[e q (by omega),h0 q (by omega) hq];rfl]
 exact e p hp
theorem conF_zero {ps:List Pr} {ts:List Pd} (h:validF ps=true∧ts.length=ps.length) (h0:∀q (hq:q<ts.length),lclF ps q 0 ts[q]=0):conF ps ts=0:=by
 have e:∀q (hq:q<ts.length),lclAt (fun p t=>lclF ps p 0 t) ts q=lclF ps q 0 ts[q]:=fun q hq=>by unfold lclAt;rw[List.getElem?_eq_getElem hq]
 unfold conF
 rw[if_pos h,find_range_no fun q hq=>by rw[e q hq,h0 q hq];rfl]
theorem conF_inv {ps:List Pr} {ts:List Pd} (h:conF ps ts=0):validF ps=true∧ts.length=ps.length∧∀q (hq:q<ts.length),lclF ps q 0 ts[q]=0:=by
 by_cases h1:validF ps=true∧ts.length=ps.length
 ·refine⟨h1.1,h1.2,fun q hq => ?_⟩
  have e:∀q (hq:q<ts.length),lclAt (fun p t=>lclF ps p 0 t) ts q=lclF ps q 0 ts[q]:=fun q hq=>by unfold lclAt;rw[List.getElem?_eq_getElem hq]
  unfold conF at h
  rw[if_pos h1] at h
  cases hf:(List.range ts.length).find? (fun p=>decide (lclAt (fun p t=>lclF ps p 0 t) ts p ≠ 0)) with
  | some p =>
   rw[hf] at h
   have:=(find_range hf).2.1
   have h:lclAt (fun p t=>lclF ps p 0 t) ts p=0:=h
   rw[h] at this;simp at this
  | none =>
   have:=find_range_none hf q hq
   rw[e q hq] at this
   simpa using this
 ·rw[conF_bad h1] at h;cases h
theorem AWp.only {C:Cfg} {cd:Code} {Q:AQ} {ρ:Env} {L:AHeap} (ks:List Nat) (h:AWp C cd Q (ks.zip (ks.map (get ρ))) L):AWp C cd Q ρ L :=
 AWp.st (fun _w0 _M _A0 _a _w hh=>st_forget hh (get_zip ks ρ)) h
theorem Vw.mkRp {L:AHeap} {xs xs':List AV} {k i j:Nat} (h:Vws L xs xs'):Vw L (.rp k xs i j) (.rp k xs' i j):=.rp h.1 h.2
theorem run_uniq {E:Elim} {now fin:Nat→Nat} {st:List Stp} {l:Bool} (h:RunR E now st fin l):∀ {fin':Nat→Nat} {st':List Stp} {l':Bool},RunR E now st' fin' l'→st=st'∧fin=fin'∧l=l':=by
 induction h with
 | stop h =>
  intro fin' st' l' h'
  cases h' with
  | stop _=>exact⟨rfl,rfl,rfl⟩
  | lost h2 _=>rw[h] at h2;cases h2
  | go h2 _ _=>rw[h] at h2;cases h2
 | lost h hl =>
  intro fin' st' l' h'
  cases h' with
  | stop h2=>rw[h] at h2;cases h2
  | lost h2 _=>rw[h] at h2;cases h2;exact⟨rfl,rfl,rfl⟩
  | go h2 hl2 _=>rw[h] at h2;cases h2;omega
 | go h hl hr ih =>
  intro fin' st' l' h'
  cases h' with
  | stop h2=>rw[h] at h2;cases h2
  | lost h2 hl2=>rw[h] at h2;cases h2;omega
  | go h2 hl2 hr2 =>
   rw[h] at h2;cases h2
   obtain⟨e1,e2,e3⟩:=ih hr2
   exact⟨by rw[e1],e2,e3⟩
theorem run_is {E:Elim} {fin:Nat→Nat} {st:List Stp} {l:Bool} (h:RunR E (fun _=>0) st fin l):stepsF E=st∧finF E=fin∧lostF E=l:=run_uniq (run_spec E) h
structure Ans where
 mode:Int
 holds:Bool
 kind:Int
 cut:List Int
 cuts:List (List Int)
 run:List (List Int)
 spans:List (Int × Int × Int)
 value:Int
def aSp (s:Int × Int × Int):AV:=.agg [ai s.1,ai s.2.1,ai s.2.2]
def aSps (l:List (Int × Int × Int)):AV:=.sl 3 (l.map aSp)
def aAns (a:Ans):AV:=.agg [ai a.mode,ab a.holds,ai a.kind,aInts a.cut,aRows a.cuts,aRows a.run,aSps a.spans,ai a.value]
def stpI (s:Stp):Int × Int × Int:=(s.1,s.2.1,s.2.2)
theorem aStp_I (l:List Stp) : .sl 3 (l.map aStp)=aSps (l.map stpI):=by unfold aSps;rw[List.map_map];rfl
def cutL (n:Nat) (f:Nat→Nat):List Int:=(List.range n).map fun q=>(f q:Int)
theorem dnA_I (n:Nat) (f:Nat→Nat) : .sl 1 (dnA n f)=aInts (cutL n f):=by unfold aInts cutL dnA;rw[List.map_map];rfl
theorem cutL_len (n:Nat) (f:Nat→Nat):(cutL n f).length=n:=by simp [cutL]
def noAns:Ans:=⟨0,false,0,[],[],[],[],0⟩
noncomputable def ansOf (E:Elim):Ans:=if lostF E=true then ⟨1,false,4,[],[],[],(stepsF E).map stpI,0⟩ else ⟨1,true,1,cutL E.n (finF E),[],[],[],0⟩
def psC:List Pr:=[⟨⟨#[112]⟩,[(⟨#[120]⟩,0)],[⟨1,0,0,0,[(0,1)]⟩,⟨1,0,0,0,[(0,0)]⟩,⟨2,1,5,0,[]⟩]⟩,⟨⟨#[113]⟩,[(⟨#[121]⟩,0)],[⟨3,0,5,0,[]⟩,⟨1,0,0,0,[(0,1)]⟩]⟩]
def oneT (p:Int) (s:ByteArray):Pd:=.mk 9 0 0 0 ByteArray.empty [.mk 2 0 p 0 s [],.mk 1 1 0 0 ByteArray.empty []]
def tsC:List Pd:=[oneT 0 ⟨#[120]⟩,oneT 1 ⟨#[121]⟩]
def tsD:List Pd:=[oneT 0 ⟨#[120]⟩,.mk 13 0 0 0 ByteArray.empty []]
theorem psC_valid:validF psC=true:=by
 unfold validF faultF
 rw[if_neg (by decide),show procFirst psC=none from rfl,show evFirst psC=none from rfl,show msgF psC=none from rfl,cycF_rank (fun x=>if x.1=0 then x.2 else x.2+3) (by decide)]
 rfl
theorem psC_sm:Sm psC:=⟨by decide,by decide,by decide,by decide⟩
theorem lclC {p:Int} {t:Pd} (h1:formedB t=true) (h2:allB (resB psC) t=true) (h3:typedB t=true) (h4:fitB psC t=true) (h5:0≤p∧p<2) (_h6:evN psC p=evN psC p) (h7:¬t.kind≤8) (h8:allB (lclB p) t=true):lclF psC p 0 t=0:=by
 have hc:checkF psC t=0:=by
  unfold checkF
  rw[psC_valid,h1,h2,h3,h4];rfl
 have hn:0≤evN psC p:=by
  unfold evN;split <;> omega
 have hl:(psC.length:Int)=2:=rfl
 unfold lclF
 rw[hc,if_neg (by decide),if_neg (by omega),if_neg h7,h8];rfl
theorem conF_C:conF psC tsC=0:=conF_zero ⟨psC_valid,rfl⟩ fun q hq=>by
 have hq:q<2:=hq
 rcases q with _|_|q
 ·exact lclC rfl rfl rfl rfl (by decide) rfl (show ¬(_:Int)≤8 from by simp [tsC,oneT,Pd.kind]) rfl
 ·exact lclC rfl rfl rfl rfl (by decide) rfl (show ¬(_:Int)≤8 from by simp [tsC,oneT,Pd.kind]) rfl
 ·omega
theorem conF_D:conF psC tsD=0:=conF_zero ⟨psC_valid,rfl⟩ fun q hq=>by
 have hq:q<2:=hq
 rcases q with _|_|q
 ·exact lclC rfl rfl rfl rfl (by decide) rfl (show ¬(_:Int)≤8 from by simp [tsD,oneT,Pd.kind]) rfl
 ·exact lclC rfl rfl rfl rfl (by decide) rfl (show ¬(_:Int)≤8 from by simp [tsD,oneT,Pd.kind]) rfl
 ·omega
theorem run_C:stepsF (elimOf psC tsC)=[(0,0,0),(1,0,1),(0,1,3)]∧finF (elimOf psC tsC)=updN (updN (updN (fun _=>0) 0 1) 1 2) 0 4∧lostF (elimOf psC tsC)=true:=by
 refine run_is (RunR.go (p:=0) rfl (by decide) (RunR.go (p:=1) rfl (by decide) (RunR.lost (p:=0) rfl (by decide))))
theorem run_D:∃fin,stepsF (elimOf psC tsD)=[(0,0,0)]∧finF (elimOf psC tsD)=fin∧lostF (elimOf psC tsD)=false∧fin 0=1∧fin 1=0:=by
 obtain⟨e1,e2,e3⟩:=run_is (E:=elimOf psC tsD) (RunR.go (p:=0) rfl (by decide) (RunR.stop rfl))
 exact⟨_,e1,e2,e3,rfl,rfl⟩
def openN (ps:List Pr):Nat→List Int→List Int
 | 0,c=>c
 | n+1,c=>match missF ps c with
  | none=>c
  | some x=>openN ps n (c.set x.2.1.toNat (x.2.2 - 1))
def openF (ps:List Pr) (c:List Int):List Int:=openN ps (totC c) c
theorem miss_prev {ps:List Pr} (hv:validF ps=true) {c:List Int} (hc:c.length=ps.length) (hr:inRangeF ps c=true) {x:Eid × Eid} (h:missF ps c=some x) :
  (c.set x.2.1.toNat (x.2.2 - 1)).length=ps.length∧inRangeF ps (c.set x.2.1.toNat (x.2.2 - 1))=true∧totC (c.set x.2.1.toNat (x.2.2 - 1))<totC c:=by
 obtain⟨p,hp,i,hi,q,hq,j,hj,_,h2,_,rfl,h1⟩:=miss_inv hv hc h
 have e:((i:Int)+1 - 1)=i:=by omega
 have hl:(c.set p (i:Int)).length=ps.length:=by rw[List.length_set];exact hc
 simp only[Int.toNat_natCast,e]
 refine⟨hl,?_,?_⟩
 ·rw[inRange_iff hl]
  intro r hr'
  rw[cAt_nat (show r<(c.set p (i:Int)).length by omega),List.getElem_set]
  split
  ·rename_i e;subst e;omega
  ·have:=(inRange_iff hc).1 hr r hr'
   rw[cAt_nat (show r<c.length by omega)] at this
   exact this
 ·have:=totC_set (c:=c) (q:=p) (x:=(i:Int)) (by omega)
  rw[cAt_nat (show p<c.length by omega)] at h2
  simp only[Int.toNat_natCast] at this
  omega
theorem openN_of {ps:List Pr} (hv:validF ps=true):∀(n m:Nat) (c:List Int),c.length=ps.length→inRangeF ps c=true→totC c≤n→totC c≤m→openN ps n c=openN ps m c
 | 0,m,c,hc,hr,hn,hm=>by
  have h:missF ps c=none:=by
   cases h:missF ps c with
   | none=>rfl
   | some x=>have:=(miss_prev hv hc hr h).2.2;omega
  cases m with
  | zero=>rfl
  | succ m=>rw[openN,openN,h]
 | n+1,0,c,hc,hr,hn,hm=>by
  have h:missF ps c=none:=by
   cases h:missF ps c with
   | none=>rfl
   | some x=>have:=(miss_prev hv hc hr h).2.2;omega
  rw[openN,openN,h]
 | n+1,m+1,c,hc,hr,hn,hm=>by
  rw[openN,openN]
  cases h:missF ps c with
  | none=>rfl
  | some x =>
   obtain⟨a1,a2,a3⟩:=miss_prev hv hc hr h
   exact openN_of hv n m _ a1 a2 (by omega) (by omega)
theorem openF_none {ps:List Pr} {c:List Int} (h:missF ps c=none):openF ps c=c:=by
 unfold openF
 cases totC c with
 | zero=>rfl
 | succ n=>rw[openN,h]
theorem openF_step {ps:List Pr} (hv:validF ps=true) {c:List Int} (hc:c.length=ps.length) (hr:inRangeF ps c=true) {x:Eid × Eid} (h:missF ps c=some x):openF ps c=openF ps (c.set x.2.1.toNat (x.2.2 - 1)):=by
 obtain⟨a1,a2,a3⟩:=miss_prev hv hc hr h
 unfold openF
 obtain⟨m,hm⟩:∃m,totC c=m+1:=⟨totC c - 1,by omega⟩
 rw[hm]
 conv=>lhs;rw[openN]
 rw[h]
 exact openN_of hv _ _ _ a1 a2 (by omega) (by omega)
theorem miss_dni {ps:List Pr} (hv:validF ps=true) {M:List Int→Prop} (h0:∀c,c.length=ps.length→inRangeF ps c=true→missF ps c=none→M c)
  (h1:∀c,c.length=ps.length→inRangeF ps c=true→∀x,missF ps c=some x→M (c.set x.2.1.toNat (x.2.2 - 1))→M c):∀c,c.length=ps.length→inRangeF ps c=true→M c:=by
 suffices H:∀n c,c.length=ps.length→inRangeF ps c=true→totC c=n→M c from fun c hc hr=>H _ c hc hr rfl
 intro n
 induction n using Nat.strongRecOn with
 | _ n ih =>
  intro c hc hr hn
  cases h:missF ps c with
  | none=>exact h0 c hc hr h
  | some x =>
   obtain⟨a1,a2,a3⟩:=miss_prev hv hc hr h
   exact h1 c hc hr x h (ih _ (by omega) _ a1 a2 rfl)
theorem openF_ok {ps:List Pr} (hv:validF ps=true) {c:List Int} (hc:c.length=ps.length) (hr:inRangeF ps c=true):(openF ps c).length=ps.length∧inRangeF ps (openF ps c)=true∧missF ps (openF ps c)=none:=by
 refine miss_dni hv (M:=fun c=>(openF ps c).length=ps.length∧inRangeF ps (openF ps c)=true∧missF ps (openF ps c)=none) (fun c hc hr h => ?_) (fun c hc hr x h hm => ?_) c hc hr
 ·rw[openF_none h];exact⟨hc,hr,h⟩
 ·rw[openF_step hv hc hr h];exact hm
theorem openF_le {ps:List Pr} (hv:validF ps=true) {c:List Int} (hc:c.length=ps.length) (hr:inRangeF ps c=true):∀p,p<ps.length→cAt (openF ps c) p≤cAt c p:=by
 refine miss_dni hv (M:=fun c=>∀p,p<ps.length→cAt (openF ps c) p≤cAt c p) (fun c hc hr h p hp => ?_) (fun c hc hr x h hm p hp => ?_) c hc hr
 ·rw[openF_none h];exact Int.le_refl _
 ·rw[openF_step hv hc hr h]
  refine Int.le_trans (hm p hp) ?_
  obtain⟨q,hq,i,hi,_,_,_,_,_,h2,_,rfl,_⟩:=miss_inv hv hc h
  have e:((i:Int)+1 - 1)=i:=by omega
  simp only[Int.toNat_natCast,e]
  rw[cAt_nat (show p<(c.set q (i:Int)).length by rw[List.length_set];omega),List.getElem_set]
  split
  ·rename_i e;subst e;omega
  ·rw[cAt_nat (show p<c.length by omega)];exact Int.le_refl _
theorem openF_great {ps:List Pr} (hv:validF ps=true) {d:List Int} (_hd:d.length=ps.length) (hcl:closedF ps d=true) {c:List Int} (hc:c.length=ps.length) (hr:inRangeF ps c=true) :
  (∀p,p<ps.length→cAt d p≤cAt c p)→∀p,p<ps.length→cAt d p≤cAt (openF ps c) p:=by
 refine miss_dni hv (M:=fun c=>(∀p,p<ps.length→cAt d p≤cAt c p)→∀p,p<ps.length→cAt d p≤cAt (openF ps c) p) (fun c hc hr h hle => ?_) (fun c hc hr x h hm hle => ?_) c hc hr
 ·rw[openF_none h];exact hle
 ·rw[openF_step hv hc hr h]
  refine hm fun p hp => ?_
  obtain⟨a,ha,i,hi,q,hq,j,hj,g1,g2,g3,rfl,h1⟩:=miss_inv hv hc h
  have e:((i:Int)+1 - 1)=i:=by omega
  simp only[Int.toNat_natCast,e]
  rw[cAt_nat (show p<(c.set a (i:Int)).length by rw[List.length_set];omega),List.getElem_set]
  split
  ·rename_i e;subst e
   rcases Int.lt_or_le (i:Int) (cAt d a) with hlt|hge
   ·have:=closed_iff.1 hcl a ha i hi g1 (by omega)
    rw[g3] at this
    have h5:=hle q hq
    simp only at this
    omega
   ·exact hge
  ·have:=hle p hp
   rw[cAt_nat (show p<c.length by omega)] at this
   exact this
theorem openF_closed {ps:List Pr} (hv:validF ps=true) {c:List Int} (hc:c.length=ps.length) (hr:inRangeF ps c=true):closedF ps (openF ps c)=true:=by
 rw[closedF_iff,(openF_ok hv hc hr).2.2];rfl
structure NeedOk (ps:List Pr) (E:Elim):Prop where
 n:E.n=ps.length
 top:∀p (hp:p<ps.length),E.top p=ps[p].evs.length
 need:∀q k p,E.need q k p=cAt (closeF ps (stC ps.length q k)) p
theorem elim_need (ps:List Pr) (ts:List Pd):NeedOk ps (elimOf ps ts):=⟨rfl,fun _ hp=>nev_get hp,fun _ _ _=>rfl⟩
structure SatD (ps:List Pr) (E:Elim) (d:List Int):Prop where
 len:d.length=ps.length
 rng:inRangeF ps d=true
 clo:closedF ps d=true
 ok:∀p,p<ps.length→E.ok p (cAt d p).toNat=true
theorem stC_cAt {n p q:Nat} {k:Int} (hq:q<n):cAt (stC n p k) q=if p=q then k else 0:=by
 rw[cAt_nat (by rw[stC_len];exact hq)]
 unfold stC
 rw[List.getElem_set,List.getElem_replicate]
theorem need_le {ps:List Pr} (hv:validF ps=true) {d:List Int} (hd:d.length=ps.length) (hr:inRangeF ps d=true) (hcl:closedF ps d=true) {q k:Nat} (hq:q<ps.length) (hk:(k:Int)≤cAt d q):∀p,p<ps.length→cAt (closeF ps (stC ps.length q k)) p≤cAt d p:=by
 have h0:=(inRange_iff hd).1 hr
 obtain⟨a1,a2⟩:=stC_ok (k:=(k:Int)) hq (by omega) (by have:=(h0 q hq).2;omega)
 refine closeF_least hv hd hcl a1 a2 fun p hp => ?_
 rw[stC_cAt hp]
 split
 ·rename_i e;subst e;exact hk
 ·exact(h0 p hp).1
theorem peer_ne {ps:List Pr} (hv:validF ps=true) {p:Nat} (hp:p<ps.length) {i:Nat} (hi:i<ps[p].evs.length) (hk:ps[p].evs[i].kind=3):ps[p].evs[i].peer.toNat ≠ p:=by
 have h:=(evF_parts hp hi).1 (evF_of_valid hv hp hi)
 have h:=h.1
 unfold formedI at h
 rw[if_neg (by omega),if_pos (.inr hk)] at h
 simp only[Bool.and_eq_true,Bool.not_eq_true',decide_eq_false_iff_not] at h
 have h0:=h.1.1
 unfold inI at h0
 simp only[Bool.and_eq_true,decide_eq_true_eq] at h0
 intro e
 exact h.1.2 (by omega)
section
variable {ps:List Pr} {E:Elim}
theorem sat_run (hv:validF ps=true) (hN:NeedOk ps E) {d:List Int} (hd:SatD ps E d) {fin:Nat→Nat} {st:List Stp} {l:Bool} (h:RunR E (fun _=>0) st fin l):l=false∧∀p,p<ps.length→(fin p:Int)≤cAt d p:=by
 have h0:=(inRange_iff hd.len).1 hd.rng
 obtain⟨e1,e2⟩:=run_least (E:=E) (d:=fun p=>(cAt d p).toNat) (fun p hp=>by
  rw[hN.n] at hp
  refine⟨?_,hd.ok p hp⟩
  rw[hN.top p hp]
  have:=h0 p hp;omega) (fun q hq k hk p hp=>by
  rw[hN.n] at hq hp
  rw[hN.need]
  have h1:=h0 q hq
  have h2:=h0 p hp
  have:=need_le hv hd.len hd.rng hd.clo hq (k:=k) (by omega) p hp
  omega) h (inE_zero E) (fun p _=>Nat.zero_le _)
 refine⟨e1,fun p hp => ?_⟩
 have:=e2 p (by rw[hN.n];exact hp)
 have:=h0 p hp
 omega
theorem run_sat (hv:validF ps=true) (hN:NeedOk ps E) {fin:Nat→Nat} {st:List Stp} (h:RunR E (fun _=>0) st fin false):SatD ps E (cutL ps.length fin):=by
 obtain⟨hI,hex⟩:=run_fin h (inE_zero E) rfl
 have hc:∀p,p<ps.length→cAt (cutL ps.length fin) p=fin p:=fun p hp=>by
  rw[cAt_nat (by rw[cutL_len];exact hp)];simp [cutL]
 have hle:∀p (hp:p<ps.length),fin p≤ps[p].evs.length:=fun p hp=>by
  have:=hI p (by rw[hN.n];exact hp)
  rw[hN.top p hp] at this;exact this
 refine⟨cutL_len _ _,(inRange_iff (cutL_len _ _)).2 fun p hp => ?_,closed_iff.2 fun p hp i hi hk hle' => ?_,fun p hp => ?_⟩
 ·rw[hc p hp];have:=hle p hp;omega
 ·obtain⟨hq,j,hj,e,_,_⟩:=recv_peer (valid_parts hv).2.2 hp hi hk
  have hne:=peer_ne hv hp hi hk
  rw[e]
  simp only
  rw[hc p hp] at hle'
  rw[hc _ hq]
  obtain⟨a1,a2⟩:=stC_ok (k:=(fin p:Int)) hp (by omega) (by have:=hle p hp;omega)
  have hcl:=closed_iff.1 (closeF_closed hv a1 a2) p hp i hi hk (by
   have:=closeF_ge hv a1 a2 p hp
   rw[stC_cAt hp,if_pos rfl] at this
   omega)
  rw[e] at hcl
  simp only at hcl
  have:=(exB_false.1 (hex _ (by rw[hN.n];exact hq))).2 p (by rw[hN.n];exact hp) (Ne.symm hne)
  rw[hN.need] at this
  omega
 ·have:=(exB_false.1 (hex p (by rw[hN.n];exact hp))).1
  rw[hc p hp,Int.toNat_natCast];exact this
theorem lost_iff (hv:validF ps=true) (hN:NeedOk ps E):lostF E=false↔∃d,SatD ps E d:=by
 have hr:=run_spec E
 constructor
 ·intro h;rw[h] at hr;exact⟨_,run_sat hv hN hr⟩
 ·rintro⟨d,hd⟩;exact(sat_run hv hN hd hr).1
theorem fin_least (hv:validF ps=true) (hN:NeedOk ps E) (h:lostF E=false):SatD ps E (cutL ps.length (finF E))∧∀d,SatD ps E d→∀p,p<ps.length→cAt (cutL ps.length (finF E)) p≤cAt d p:=by
 have hr:=run_spec E
 rw[h] at hr
 refine⟨run_sat hv hN hr,fun d hd p hp => ?_⟩
 rw[cAt_nat (by rw[cutL_len];exact hp)]
 have:=(sat_run hv hN hd hr).2 p hp
 simpa [cutL] using this
theorem cut_ext {c d:List Int} (hl:c.length=d.length) (h:∀p,p<c.length→cAt c p=cAt d p):c=d:=by
 apply List.ext_getElem hl
 intro i h1 h2
 have:=h i h1
 rwa [cAt_nat h1,cAt_nat h2] at this
end
end Go.AL
end
section
namespace Go.AL
open Go Go.RowKit Go.ChangeShapes Go.WideShapes Go.ChangeAt
theorem Fr.below {W W':World} (h:Fr W (keysOf []) W'):Below W.heap.size W W':=⟨h.os,h.tape,h.output,h.size,fun k hk=>h.block k hk (by rintro⟨x,hx,_⟩;cases hx)⟩
theorem LRel.empty (W:World) (hg:∀g x,GV g=some x→Rel W (fun b=>b<W.heap.size) x (.pointer (some ⟨g,0,none⟩))):LRel W (fun b=>b<W.heap.size) []:=⟨fun _ h=>h,(by intro x hx;cases hx),List.nodup_nil,(by intro x hx;cases hx),hg⟩
theorem PC.calls {P:Program} {f:FuncId} {args:List AV} {x:Value} (h:PC P f args (.v x)) {W:World} {vs:List Value} (hg:∀g x,GV g=some x→Rel W (fun b=>b<W.heap.size) x (.pointer (some ⟨g,0,none⟩))) (hr:Rels W (fun b=>b<W.heap.size) args vs) :
  Calls P f vs.toArray W fun e W'=>e = .returned x∧Below W.heap.size W W' :=
 ((h.2 0 W _ vs (LRel.empty W hg) hr).calls (fun _ d hd=>by cases hd)).mono fun e W' ⟨v,r,L',A',he,⟨hr,_⟩,hf,_,_,_,hv⟩=>by
  subst he hr
  cases hv
  exact⟨rfl,hf.below⟩
def Rd {H:Type} (enc:TypeId × Value→H) (P:Program) (W:World) (t:TypeId) (k:Nat) {α:Type} (E:α→AV) (ok:α→Prop):Prop :=
 ∀fuel cs x,DataW.trod enc P W 0 (fun _=>true) true fuel t cs=some x→∃y,ok y∧elOk k (E y)∧cs.length=k∧∀(i:Nat) c u,(E y).cells[i]?=some c→cs[i]?=some u→Rel W (fun b=>b<W.heap.size) c u
section
variable {H:Type} {enc:TypeId × Value→H} {P:Program} {W:World} {t:TypeId}
theorem Rd.int (ht:P.underlying t=some (.int .i64)):Rd enc P W t 1 ai (fun n=>(Lit.int .i64 n).wf=true):=by
 intro fuel cs x h
 obtain⟨n,rfl,_,hw⟩:=DataW.trod_int ht h
 refine⟨n,hw,⟨rfl,rfl⟩,rfl,fun i c u h1 h2 => ?_⟩
 cases i with
 | zero=>cases h1;cases h2;exact .v _
 | succ i=>cases h2
theorem Rd.str (ht:P.underlying t=some .string):Rd enc P W t 1 (fun s => .v (.string s)) (fun _=>True):=by
 intro fuel cs x h
 obtain⟨s,rfl,_,hw⟩:=DataW.trod_string ht h
 refine⟨s,trivial,⟨rfl,rfl⟩,rfl,fun i c u h1 h2 => ?_⟩
 cases i with
 | zero=>cases h1;cases h2;exact .v _
 | succ i=>cases h2
theorem ofFin {α:Type} {len:Nat} {Q:Nat→α→Prop} (h:∀i,i<len→∃y,Q i y):∃l:List α,l.length=len∧∀(i:Nat) (hi:i<l.length),Q i l[i]:=by
 refine⟨List.ofFn fun i:Fin len=>Classical.choose (h i i.2),List.length_ofFn,fun i hi => ?_⟩
 rw[List.getElem_ofFn]
 exact Classical.choose_spec (h i (by simpa using hi))
theorem add_none (b off n:Nat):(⟨b,off,none⟩:Addr).add n=⟨b,off+n,none⟩:=by
 unfold Addr.add;split
 ·rename_i h;rw[h];rfl
 ·rfl
theorem Rd.slice {α:Type} {E:α→AV} {ok:α→Prop} {e:TypeId} {k:Nat} (ht:P.underlying t=some (.slice e)) (hk:P.cellsOf e=k) (h0:0<k) (he:Rd enc P W e k E ok) :
  Rd enc P W t 1 (fun l:List α => .sl k (l.map E)) (fun l=>l.length≤maxLen∧∀y ∈ l,ok y):=by
 intro fuel cs x h
 rcases DataW.trod_slice ht h with ⟨rfl,_⟩|⟨a,len,cap,elems,rest,n,_,rfl,_,_,hl,hm,hlen,hel,_,_⟩
 ·refine⟨[],⟨by simp,by simp⟩,⟨rfl,rfl⟩,rfl,fun i c u h1 h2 => ?_⟩
  cases i with
  | zero=>cases h1;cases h2;exact .sl0 k none 0 (by simp)
  | succ i=>cases h2
 ·rw[hk] at hel
  obtain⟨l,hll,hli⟩:=ofFin (len:=len) (Q:=fun i y=>∃cs:List Value,ok y∧elOk k (E y)∧cs.length=k∧(∀m,m<k→W.cell? ((a.add (i * k)).add m)=cs[m]?)∧∀(m:Nat) c u,(E y).cells[m]?=some c→cs[m]?=some u→Rel W (fun b=>b<W.heap.size) c u) fun i hi=>by
   have h1:=hel i hi
   rw[List.getElem?_eq_getElem (by omega),Option.bind_eq_some_iff] at h1
   obtain⟨cs,hc,ht⟩:=h1
   obtain⟨y,k1,k2,k3,k4⟩:=he _ _ _ ht
   exact⟨y,cs,k1,k2,k3,(World.cells?_some hc).2.2,k4⟩
  refine⟨l,⟨by omega,fun y hy => ?_⟩,⟨rfl,rfl⟩,rfl,fun i c u h1 h2 => ?_⟩
  ·obtain⟨i,hi,rfl⟩:=List.getElem_of_mem hy
   obtain⟨_,h,_⟩:=hli i (by omega);exact h
  ·cases i with
   | succ i=>cases h2
   | zero =>
    cases h1;cases h2
    by_cases hz:len=0
    ·subst hz
     rw[List.length_eq_zero_iff.1 hll]
     exact .sl0 k _ cap hm
    ·obtain⟨b,off,spot⟩:=a
     obtain⟨cs0,_,_,c3,c4,_⟩:=hli 0 (by omega)
     have hs:spot=none:=by
      have:=c4 0 h0
      have e0:∀a:Addr,a.add 0=a:=fun _=>rfl
      rw[Nat.zero_mul,e0,e0,List.getElem?_eq_getElem (by omega)] at this
      cases spot with
      | none=>rfl
      | some s =>
       exfalso
       unfold World.cell? at this
       split at this
       ·rw[if_pos (show (some s).isSome=true from rfl)] at this;cases this
       ·cases this
     subst hs
     have cell:∀(i:Nat) (hi:i<len) (m:Nat),m<k→∃u,W.cell? ⟨b,off+(i * k+m),none⟩=some u∧∀c,(E (l[i]'(by omega))).cells[m]?=some c→Rel W (fun b=>b<W.heap.size) c u:=fun i hi m hm=>by
      obtain⟨cs,_,_,c3,c4,c5⟩:=hli i (by omega)
      have:=c4 m hm
      rw[add_none,add_none,Nat.add_assoc,List.getElem?_eq_getElem (by omega)] at this
      exact⟨_,this,fun c hc=>c5 m c _ hc (List.getElem?_eq_getElem (by omega))⟩
     have hA:b<W.heap.size:=by
      obtain⟨u,hu,_⟩:=cell 0 (by omega) 0 h0
      unfold World.cell? at hu
      cases hb:W.heap[b]? with
      | none=>simp [hb] at hu
      | some o=>exact(Array.getElem?_eq_some_iff.1 hb).1
     have:=Rel.sl (w:=W) (A:=fun b=>b<W.heap.size) k (l.map E) b off cap (fun j=>(W.cell? ⟨b,off+j,none⟩).getD undef) hA (by rw[List.length_map];omega) hm
      (fun x hx=>by
       obtain⟨y,hy,rfl⟩:=List.mem_map.1 hx
       obtain⟨i,hi,rfl⟩:=List.getElem_of_mem hy
       obtain⟨cs,_,c2,_⟩:=hli i (by omega)
       exact c2)
      (fun j hj=>by
       rw[List.length_map,hll] at hj
       have h1:j / k<len:=(Nat.div_lt_iff_lt_mul h0).2 hj
       obtain⟨u,hu,_⟩:=cell (j / k) h1 (j % k) (Nat.mod_lt _ h0)
       have e:j / k * k+j % k=j:=Nat.div_add_mod' j k
       rw[e] at hu
       rw[hu];rfl)
      (fun i x j y hx hy=>by
       rw[List.getElem?_map,Option.map_eq_some_iff] at hx
       obtain⟨z,hz,rfl⟩:=hx
       obtain⟨hi,rfl⟩:=List.getElem?_eq_some_iff.1 hz
       obtain⟨cs,_,c2,_⟩:=hli i (by omega)
       have hj:j<k:=by have:=(List.getElem?_eq_some_iff.1 hy).1;have:=c2.1;omega
       obtain⟨u,hu,hr⟩:=cell i (by omega) j hj
       rw[hu]
       exact hr _ hy)
     rw[List.length_map,hll] at this
     exact this
theorem trodAll_stays {W':World} (hl:laidOutB P=true) (hb:Below W.heap.size W W'):∀ {ts:List TypeId} {vs:List Value} {ds:List (DataW H)} {ps:List MemPlace},(∀t ∈ ts,P.readableRec t=true∧t<P.types.size)→DataW.TrodAll enc P W 0 (fun _=>true) true ts vs ds ps →
  DataW.TrodAll enc P W' 0 (fun b=>decide (b<W.heap.size)) true ts vs ds ps
 | [],_,_,_,_,h=>by
  obtain⟨rfl,rfl,rfl⟩:=trodAll_nil h
  rfl
 | t :: ts,_,_,_,ht,h=>by
  have hlt:=h.lt
  obtain⟨v,vs1,d,ds1,a,b,rfl,rfl,rfl,h1,h2⟩:=trodAll_cons h
  exact⟨a,b,Below.trod hl (ht t List.mem_cons_self).1 (ht t List.mem_cons_self).2 h1 hb (fun x hx=>hlt x (List.mem_append_left _ hx)),trodAll_stays hl hb (fun t' ht'=>ht t' (List.mem_cons_of_mem _ ht')) h2,rfl⟩
theorem post_true {f:Func} {s:ChangeSpec} {fresh handsOn:Bool} {W':World} {args:Array Value} {ds:List (DataW H)} {before:List MemPlace} {tb:TypeId} (hl:laidOutB P=true)
  (hW:DataW.Whole enc P f.params.toList s.vars false W args.toList ds [] before) (hv:s.vars=[]) (hs:s.fn H (ds ++ []) = { results:=[.lit (.bool true)],args:=ds })
  (hr:f.resultTypes = #[tb]) (ht:P.underlying tb=some .bool) (hp:∀t ∈ f.params.toList,P.readableRec t=true∧t<P.types.size) (hb:Below W.heap.size W W') :
  s.post enc P f false fresh handsOn false W args (.bool true) W':=by
 have hW0:=hW
 obtain⟨p,q,hA,hV,rfl,_,_⟩:=hW0
 refine⟨ds,[],p ++ q,[],p,[],hW,?_,?_,?_,hb.frame _,fun h=>by cases h⟩
 ·rw[hs,hr]
  exact⟨[],[],⟨1,by simp [DataW.trod,Value.cells,ht]⟩,rfl,rfl⟩
 ·rw[hs]
  exact trodAll_stays hl hb hp hA
 ·rw[hs,hv];rfl
end
end Go.AL
end
