/- Texts of this claim's proof: WY8, WY5, WY11. No condition. -/
import Derived.Test.YtkkcgocdmaodbaaGreatDoorM20
import Derived.Test.YtkkcgocdmaodbaaGreatDoorM10
import Derived.Test.YtkkcgocdmaodbaaGreatDoorM19
import Derived.Test.YtkkcgocdmaodbaaGreatDoorM15
import Derived.Test.YtkkcgocdmaodbaaGreatDoorM7
import Derived.Test.YtkkcgocdmaodbaaGreatDoorM17
section
namespace Go.AL
open Go Go.RowKit
set_option maxRecDepth 4000
def aOrd (ps:List Pr) (S:Nat→List (List Int)) (w:Bool):AV:=.rp 3 [.agg [aPrs ps,.sl 1 ((List.range ps.length).map fun p => .sl 1 ((S p).map aInts)),ab w]] 0 0
def excB (n:Nat) (S:Nat→List (List Int)) (c:Nat→Nat) (p:Nat):Bool:=(List.range n).any fun q=>decide (q ≠ p) && decide ((c p:Int)<(stOf S q (c q)).getD p 0)
structure TabOk (ps:List Pr) (S:Nat→List (List Int)):Prop where
 len:∀p,p<ps.length→(S p).length=nev ps p+1
 row:∀p k,p<ps.length→k<(S p).length→(stOf S p k).length=ps.length
theorem tab_ok {ps:List Pr} (hv:validF ps=true) {l:List Syn} (hl:SynOk ps l) {S:Nat→List (List Int)} (hG:GenX ps l S) (hW:WhlX ps S):TabOk ps S:=⟨hW,fun p k _ hk=>(hG.st hv hl p k hk).len⟩
theorem order_excluded (ps:List Pr) (hs:Sm ps) (S:Nat→List (List Int)) (w:Bool) (hT:TabOk ps S) (c:Nat→Nat) (hc:∀q,q<ps.length→c q≤nev ps q) (p:Nat) (hp:p<ps.length) :
  PC Proofs.Tryz.prog 68 [aOrd ps S w,.sl 1 (dnA ps.length c),ai p] (ab (excB ps.length S c p)):=by
 have hps:=hs.procs
 have hdl:=dnA_length ps.length c
 have hgp:=dnA_get hp c
 have hTl:((List.range ps.length).map fun p=>AV.sl 1 ((S p).map aInts)).length=ps.length:=by simp
 have hR:∀q,q<ps.length→((List.range ps.length).map fun p=>AV.sl 1 ((S p).map aInts)).getD q .any = .sl 1 ((S q).map aInts):=fun q hq=>map_range_getD hq _
 have hE:excB ps.length S c p=(List.range ps.length).any fun q=>decide (q ≠ p) && decide ((c p:Int)<(stOf S q (c q)).getD p 0):=rfl
 unfold aOrd
 generalize excB ps.length S c p=E at *
 generalize hT0:((List.range ps.length).map fun p=>AV.sl 1 ((S p).map aInts))=T at *
 refine PC.enter 40 [.tmp 6] [] Proofs.Tryz.func68 rfl rfl rfl rfl rfl (by simp) (AWp.of ?_);simp only[go_sem]
 refine W1 hdl ?_
 refine AWp.range' ps.length [] [0,1,2,9,10] (fun k vs L=>L=[]∧vs=[]∧∀q,q<k→¬q=p→¬(c p:Int)<(stOf S q (c q)).getD p 0) (by omega) rfl rfl rfl ⟨rfl,rfl,fun _ h=>by omega⟩ ?_ ?_
 ·rintro k vs L hk - ⟨rfl,rfl,hI⟩
  have hg:=dnA_get hk c
  have hRk:=hR k hk
  have hck:=hc k hk
  have hSk:=hT.len k hk
  have hrow:=hT.row k (c k) hk (by omega)
  have hst:((S k).map aInts).getD (c k) .any=aInts (stOf S k (c k)):=by
   rw[getD_map (by omega)]
   unfold stOf
   rw[List.getD_eq_getElem?_getD,List.getElem?_eq_getElem (by omega),Option.getD_some]
  have hen:(stOf S k (c k)).map ai=(stOf S k (c k)).map ai:=rfl
  have hge:((stOf S k (c k)).map ai).getD p .any=ai ((stOf S k (c k)).getD p 0):=by
   rw[getD_map (by omega),List.getD_eq_getElem?_getD,List.getElem?_eq_getElem (by omega),Option.getD_some]
  have hel:((stOf S k (c k)).map ai).length=ps.length:=by rw[List.length_map,hrow]
  have htrue:¬k=p→(c p:Int)<(stOf S k (c k)).getD p 0→E=true:=fun h1 h2=>by
   rw[hE,List.any_eq_true]
   exact⟨k,List.mem_range.2 hk,by rw[decide_eq_true h1,decide_eq_true h2];rfl⟩
  have hfalse:(¬k=p→¬(c p:Int)<(stOf S k (c k)).getD p 0)→∀q,q<k+1→¬q=p→¬(c p:Int)<(stOf S q (c q)).getD p 0:=fun h q hq hqp=>by
   by_cases e:q=k
   ·subst e;exact h hqp
   ·exact hI q (by omega) hqp
  have hkp:((k:Int)=p)↔k=p:=by omega
  generalize (stOf S k (c k)).getD p 0=x at *
  generalize stOf S k (c k)=row at *
  simp only[go_sem]
  refine W2 hg hdl ?_
  repeat(first|(with_reducible refine AWp.seq ?_)|(with_reducible refine AWp.block ?_))
  refine AWp.read mixed [0,1,2,3,4,5,6,7,8,9,10,11,12,13,14,15,16,17,18,19,20,21,22] (by kernel_rfl) ?_;simp only[go_sem,hgp,hRk,hst,hge,hel,hdl,hkp]
  refine Sd ?_
  refine Wk ?_
  refine⟨fun h1 h2 => ?_,fun h1 => ?_⟩
  ·rw[htrue h1 h2]
   refine Wk ?_
   refine ret_eq ?_;simp only[go_sem]
  ·refine Wk ?_
   exact⟨_,List.Sublist.refl _,rfl,hfalse h1⟩
 ·rintro vs L - ⟨rfl,rfl,hI⟩
  have:E=false:=by
   rw[hE,List.any_eq_false]
   intro q hq h
   rw[Bool.and_eq_true,decide_eq_true_eq,decide_eq_true_eq] at h
   exact hI q (List.mem_range.1 hq) h.1 h.2
  rw[this]
  simp only[go_sem]
  refine Wk ?_
  refine ret_eq ?_;simp only[go_sem]
theorem excB_iff {n:Nat} {S:Nat→List (List Int)} {c:Nat→Nat} {p:Nat} : excB n S c p=true↔∃q,q<n∧q ≠ p∧(c p:Int)<(stOf S q (c q)).getD p 0:=by
 unfold excB
 rw[List.any_eq_true]
 constructor
 ·rintro⟨q,h1,h2⟩
  rw[Bool.and_eq_true,decide_eq_true_eq,decide_eq_true_eq] at h2
  exact⟨q,List.mem_range.1 h1,h2.1,h2.2⟩
 ·rintro⟨q,h1,h2,h3⟩
  exact⟨q,List.mem_range.2 h1,by rw[decide_eq_true h2,decide_eq_true h3];rfl⟩
def UpX (ps:List Pr) (l:List Syn) (bad:Nat→Nat→Bool) (c:Nat→Nat):Prop:=∀d,HoldX ps l bad d→∀p,p<ps.length→c p≤d p
theorem UpX.bump {ps:List Pr} {l:List Syn} {bad:Nat→Nat→Bool} {S:Nat→List (List Int)} (hv:validF ps=true) (hl:SynOk ps l) (hG:GenX ps l S) (hW:WhlX ps S) {c:Nat→Nat} (hI:UpX ps l bad c) {p:Nat} (hp:p<ps.length)
  (hr:∀q,q<ps.length→q ≠ p→c q≤nev ps q) (h:bad p (c p)=false∨excB ps.length S c p=true):UpX ps l bad (updN c p (c p+1)):=fun d hd q hq=>by
 unfold updN
 split
 ·rename_i e
  subst e
  refine ctl_bump hv hl hG hW hI hq ?_ d hd
  rcases h with h|h
  ·exact .inl h
  ·obtain⟨a,a1,a2,a3⟩:=excB_iff.1 h
   exact .inr ⟨a,a1,hr a a1 a2,a3⟩
 ·exact hI d hd q hq
theorem UpX.out {ps:List Pr} {l:List Syn} {bad:Nat→Nat→Bool} {c:Nat→Nat} (hI:UpX ps l bad c) {p:Nat} (hp:p<ps.length) (h:nev ps p<c p):ctlB ps l bad=true:=by
 rw[ctlB_true]
 rintro⟨d,hd⟩
 have:=hI d hd p hp
 have:=hd.rng p hp
 omega
theorem UpX.stop {ps:List Pr} {l:List Syn} {bad:Nat→Nat→Bool} {S:Nat→List (List Int)} (hv:validF ps=true) (hl:SynOk ps l) (hG:GenX ps l S) (hW:WhlX ps S) {c:Nat→Nat} (hr:∀p,p<ps.length→c p≤nev ps p)
  (h:∀p,p<ps.length→bad p (c p)=true∧excB ps.length S c p=false):ctlB ps l bad=false:=by
 cases hc:ctlB ps l bad with
 | false=>rfl
 | true =>
  refine absurd ⟨c,ctl_stop hv hl hG hW hr (fun p hp=>(h p hp).1) fun p q hp hq hne => ?_⟩ (ctlB_true.1 hc)
  refine Int.not_lt.1 fun hlt => ?_
  have:=(h p hp).2
  rw[excB_iff.2 ⟨q,hq,hne,hlt⟩] at this;cases this
def roomX (ps:List Pr) (c:Nat→Nat):Nat:=totS ps.length fun q=>nev ps q+1 - c q
theorem roomX_lt {ps:List Pr} {c:Nat→Nat} {p:Nat} (hp:p<ps.length) (h:c p≤nev ps p):roomX ps (updN c p (c p+1))<roomX ps c:=by
 have:=totS_lt (c:=fun q=>nev ps q+1 - c q) (c':=fun q=>nev ps q+1 - updN c p (c p+1) q) (p:=p) (fun q hq=>by rw[updN_ne hq]) (by rw[updN_self];omega) ps.length
 rw[if_pos hp] at this
 unfold roomX
 omega
set_option maxHeartbeats 2000000 in
theorem order_controls (ps:List Pr) (hs:Sm ps) (hv:validF ps=true) (l:List Syn) (hl:SynOk ps l) (S:Nat→List (List Int)) (hG:GenX ps l S) (hW:WhlX ps S) (w:Bool) (bad:Nat→Nat→Bool) :
  PC Proofs.Tryz.prog 36 [aOrd ps S w,.sl 1 ((List.range ps.length).map fun p => .sl 1 ((List.range (nev ps p+1)).map fun k=>ab (bad p k)))] (ab (ctlB ps l bad)):=by
 have hps:=hs.procs
 have hT:=tab_ok hv hl hG hW
 have hex:=fun c hc p hp=>order_excluded ps hs S w hT c hc p hp
 have hB:∀p,p<ps.length→((List.range ps.length).map fun p=>AV.sl 1 ((List.range (nev ps p+1)).map fun k=>ab (bad p k))).getD p .any = .sl 1 ((List.range (nev ps p+1)).map fun k=>ab (bad p k)):=fun p hp=>map_range_getD hp _
 have hBl:∀p,((List.range (nev ps p+1)).map fun k=>ab (bad p k)).length=nev ps p+1:=fun p=>by simp
 have hBk:∀p k,k≤nev ps p→((List.range (nev ps p+1)).map fun k=>ab (bad p k)).getD k .any=ab (bad p k):=fun p k hk=>map_range_getD (by omega) _
 have hBn:∀p,((List.range (nev ps p+1)).map fun k=>ab (bad p k)).getD (nev ps p+1) .any = .any:=fun p=>by
  rw[List.getD_eq_getElem?_getD,List.getElem?_eq_none (by simp)];rfl
 have hTl:((List.range ps.length).map fun p=>AV.sl 1 ((List.range (nev ps p+1)).map fun k=>ab (bad p k))).length=ps.length:=by simp
 have hz:List.replicate ps.length (ai 0)=dnA ps.length fun _=>0:=by
  unfold dnA
  rw[List.map_const',List.length_range];rfl
 have hnv:∀p,p<ps.length→nev ps p≤1000000:=fun p hp=>by rw[nev_get hp];exact hs.evs _ (List.getElem_mem hp)
 have hout:=fun c (h:UpX ps l bad c) p hp=>h.out (p:=p) hp
 have hbump:=fun c (h:UpX ps l bad c) p hp=>h.bump (S:=S) hv hl hG hW (p:=p) hp
 have hstop:=fun c=>UpX.stop (bad:=bad) (c:=c) hv hl hG hW
 have h0:UpX ps l bad fun _=>0:=fun d _ p _=>Nat.zero_le _
 obtain⟨BR,hBR⟩:∃BR:Nat→List AV,BR=fun p=>(List.range (nev ps p+1)).map fun k=>ab (bad p k):=⟨_,rfl⟩
 have hBRp:∀p,((List.range (nev ps p+1)).map fun k=>ab (bad p k))=BR p:=fun p=>by rw[hBR]
 simp only[hBRp] at hB hBl hBk hBn hTl ⊢
 clear hBR hBRp
 generalize ctlB ps l bad=R at *
 generalize (List.range ps.length).map (fun p=>AV.sl 1 (BR p))=BT at *
 obtain⟨O,hO⟩:∃O,O=aOrd ps S w:=⟨_,rfl⟩
 have hOf:AL.fo O=(True,O):=by rw[hO];rfl
 rw[← hO] at hex ⊢
 clear hO
 refine PC.enter 64 [.tmp 4] [] Proofs.Tryz.func36 rfl rfl rfl rfl rfl (by simp) (AWp.of ?_);simp only[go_sem]
 refine W2 hOf hTl ?_
 intro b5
 have hz':List.replicate ps.length (AV.v (Value.int IntKind.i64 0))=dnA ps.length fun _=>0:=hz
 rw[hz']
 refine AWp.block (AWp.loopN [] [0,1,5] (fun m vs L=>vs=[]∧∃c:Nat→Nat,L=[(b5,.row 3 1 (dnA ps.length c) ps.length)]∧(∀q,q<ps.length→c q≤nev ps q)∧UpX ps l bad c∧m=roomX ps c) (roomX ps fun _=>0) ⟨rfl,_,rfl,fun _ _=>Nat.zero_le _,h0,rfl⟩ ?_)
 rintro m vs L - ⟨rfl,c0,rfl,hc0,hu0,rfl⟩
 simp only[go_sem]
 repeat(first|((with_reducible refine AWp.ofC ?_ ?_);exact rfl;simp only[go_sem])|((with_reducible refine an ?_ ?_);exact Au))
 refine AWp.range' ps.length [6] [0,1,5,12] (fun p vs L=>∃(c:Nat→Nat) (mv:Bool),vs=[ab mv]∧L=[(b5,.row 3 1 (dnA ps.length c) ps.length)]∧(∀q,q<ps.length→c q≤nev ps q)∧UpX ps l bad c ∧
  (mv=false→c=c0∧∀q,q<p→bad q (c q)=true∧excB ps.length S c q=false)∧(mv=true→roomX ps c<roomX ps c0)) (by omega) rfl rfl rfl ⟨c0,false,rfl,rfl,hc0,hu0,fun _=>⟨rfl,fun _ h=>by omega⟩,fun h=>by cases h⟩ ?_ ?_
 ·rintro p vs L hp - ⟨c1,m1,rfl,rfl,hc1,hu1,hf1,ht1⟩
  simp only[go_sem]
  refine W1 hOf ?_
  refine AWp.seq (AWp.block (AWp.loopN [6] [0,1,5,7,12,13] (fun m vs L=>∃(c:Nat→Nat) (mv:Bool),vs=[ab mv]∧L=[(b5,.row 3 1 (dnA ps.length c) ps.length)]∧(∀q,q<ps.length→q ≠ p→c q≤nev ps q)∧c p≤nev ps p+1∧UpX ps l bad c ∧
   (mv=false→c=c0∧∀q,q<p→bad q (c q)=true∧excB ps.length S c q=false)∧(mv=true→roomX ps c<roomX ps c0)∧m=nev ps p+1 - c p) (nev ps p+1 - c1 p) ⟨c1,m1,rfl,rfl,fun q hq _=>hc1 q hq,Nat.le_succ_of_le (hc1 p hp),hu1,hf1,ht1,rfl⟩ ?_))
  rintro m vs L - ⟨c,mv,rfl,rfl,hcq,hcp,hu,hf,ht,rfl⟩
  have gc:=dnA_get hp c
  have gB:=hB p hp
  have hnp:=hnv p hp
  by_cases hcn:c p≤nev ps p
  ·have gk:=hBk p (c p) hcn
   have hx:=hex c (fun q hq=>by by_cases e:q=p;· subst e;exact hcn
                                ·exact hcq q hq e) p hp
   have hlt:(c p:Int)<((nev ps p+1:Nat):Int):=by omega
   have hvw:Vws [(b5,.row 3 1 (dnA ps.length c) ps.length)] [O,.ls b5 1 0 ps.length ps.length,ai p] [O,.sl 1 (dnA ps.length c),ai p]:=Vws.cons (.refl _) (Vws.cons (Vw.ofLs (t:=3) (cap:=ps.length) (if_pos rfl) (dnA_length _ _).symm) (Vws.refl _))
   simp only[go_sem]
   refine AWp.seq (AWp.seq ?_)
   repeat(first|(with_reducible refine AWp.seq ?_)|(with_reducible refine AWp.block ?_))
   refine AWp.read mixed [0,1,2,3,4,5,6,7,8,9,10,11,12,13,14,15,16,17,18,19,20,21,22,23,24,25,26,27,28] (by kernel_rfl) ?_;simp only[go_sem,gc,gB,gk,hBl,dnA_length,hTl,hOf,hlt]
   refine Sd ?_
   refine GCall.use (ab (excB ps.length S c p)) ?_ ?_
   ·intro _;exact⟨At,(PC.view hvw hx (Own.v _) ⟨rfl,rfl⟩).val⟩
   simp only[go_sem]
   refine Sd ?_
   have hset:(dnA ps.length c).set p (ai ((c p:Int)+1))=dnA ps.length (updN c p (c p+1)):=dnA_set (by rw[updN_self];omega) fun q hq=>updN_ne hq
   have hroom:=roomX_lt hp hcn
   generalize hxe:excB ps.length S c p=xe at *
   generalize hbe:bad p (c p)=be at *
   refine W1 hOf ?_
   refine⟨fun h1 => ?_,fun h1 => ?_⟩
   ·have hbx:be=false∨xe=true:=by
     cases be with
     | false=>exact .inl rfl
     | true=>exact .inr (by simpa using h1)
    repeat(first|((with_reducible refine AWp.ofC ?_ ?_);exact rfl;simp only[go_sem,gc,dnA_length,hset])|((with_reducible refine an ?_ ?_);exact Au))
    have hm:mv=false→roomX ps c≤roomX ps c0:=fun h=>by rw[(hf h).1];exact Nat.le_refl _
    refine⟨_,List.Sublist.refl _,_,?_,updN c p (c p+1),true,rfl,rfl,fun q hq hqp=>by rw[updN_ne hqp];exact hcq q hq hqp,by rw[updN_self];omega,hbump c hu p hp hcq (by rw[hbe,hxe];exact hbx),fun h=>(by cases h),fun _ => ?_,rfl⟩
    ·rw[updN_self];omega
    ·cases mv with
     | true=>have:=ht rfl;omega
     | false=>have:=hm rfl;omega
   ·intro h2
    have hne:¬(c p:Int)=((nev ps p+1:Nat):Int):=by omega
    have hall:∀q,q<ps.length→c q≤nev ps q:=fun q hq=>by
     by_cases e:q=p
     ·subst e;exact hcn
     ·exact hcq q hq e
    have hf':mv=false→c=c0∧∀q,q<p+1→bad q (c q)=true∧excB ps.length S c q=false:=fun hm=>by
     obtain⟨g1,g2⟩:=hf hm
     refine⟨g1,fun q hq => ?_⟩
     by_cases e:q=p
     ·subst e;rw[hbe,hxe];exact⟨h1,h2⟩
     ·exact g2 q (by omega)
    refine AWp.seq ?_
    repeat(first|(with_reducible refine AWp.seq ?_)|(with_reducible refine AWp.block ?_))
    refine AWp.read mixed [0,1,2,3,4,5,6,7,8,9] (by kernel_rfl) ?_;simp only[go_sem,gc,gB,hBl,dnA_length,hTl,hne]
    refine Sd ?_
    refine W2 hne hOf ?_
    exact⟨_,List.Sublist.refl _,c,mv,rfl,rfl,hall,hu,hf',ht⟩
  ·have hce:c p=nev ps p+1:=by omega
   have gk:(BR p).getD (c p) .any = .any:=by rw[hce];exact hBn p
   have hlt:¬(c p:Int)<((nev ps p+1:Nat):Int):=by omega
   have heq:(c p:Int)=((nev ps p+1:Nat):Int):=by omega
   simp only[go_sem]
   refine AWp.seq (AWp.seq ?_)
   repeat(first|(with_reducible refine AWp.seq ?_)|(with_reducible refine AWp.block ?_))
   refine AWp.read mixed [0,1,2,3,4,5,6,7,8,9,10,11,12,13,14,15,16,17,18,19,20,21,22,23,24,25,26,27,28] (by kernel_rfl) ?_;simp only[go_sem,gc,gB,gk,hBl,dnA_length,hTl,hOf,hlt]
   refine Sd ?_
   refine GCall.use (ab false) (fun h=>absurd h (by first|(simp;done)|trace_state)) ?_
   simp only[go_sem]
   refine Sd ?_
   refine Sd ?_
   refine AWp.of ?_;simp only[go_sem]
   refine AWp.seq ?_
   repeat(first|(with_reducible refine AWp.seq ?_)|(with_reducible refine AWp.block ?_))
   refine AWp.read mixed [0,1,2,3,4,5,6,7,8,9] (by kernel_rfl) ?_;simp only[go_sem,gc,gB,hBl,dnA_length,hTl,heq]
   refine Sd ?_
   rw[hout c hu p hp (by omega)]
   refine W1 hOf ?_
   refine ret_eq ?_;simp only[go_sem]
 ·rintro vs L - ⟨c,mv,rfl,rfl,hc1,hu1,hf1,ht1⟩
  simp only[go_sem]
  refine W1 hOf ?_
  refine⟨fun h1 => ?_,fun h1 => ?_⟩
  ·obtain⟨rfl,hs⟩:=hf1 (by simpa using h1)
   rw[hstop c hc1 fun p hp=>hs p hp]
   refine Wk ?_
   refine ret_eq ?_;simp only[go_sem]
  ·exact⟨_,List.Sublist.refl _,_,ht1 (by simpa using h1),c,rfl,hc1,hu1,rfl⟩
section
variable {ps:List Pr} {l:List Syn} {S:Nat→List (List Int)} (hv:validF ps=true) (hl:SynOk ps l) (hG:GenX ps l S)
include hv hl hG
end
def lftX (ps:List Pr) (S:Nat→List (List Int)):Nat:=totS ps.length fun p=>nev ps p+1 - (S p).length
theorem tot_congr {n:Nat} {c c':Nat→Nat} (h:∀q,q<n→c q=c' q):totS n c=totS n c':=Nat.le_antisymm (totS_le2 n fun q hq=>Nat.le_of_eq (h q hq)) (totS_le2 n fun q hq=>Nat.le_of_eq (h q hq).symm)
theorem tot_off {ps:List Pr} : ∀k,k≤ps.length→totS k (nev ps)=off ps k
 | 0,_=>by simp [totS,off]
 | k+1,h=>by rw[totS_succ,tot_off k (by omega),off_succ (by omega),nev_get (by omega)]
theorem lft_init (ps:List Pr):lftX ps (fun _=>[List.replicate ps.length 0])=off ps ps.length:=by
 unfold lftX
 rw[← tot_off ps.length (Nat.le_refl _)]
 exact tot_congr fun q _=>by simp
theorem lft_up {ps:List Pr} {S:Nat→List (List Int)} {p:Nat} (hp:p<ps.length) (h:(S p).length≤nev ps p) (v:List Int):lftX ps S=lftX ps (upS S p v)+1:=by
 unfold lftX
 rw[totS_bump (c:=fun q=>nev ps q+1 - (upS S p v q).length) (p:=p) (fun q=>by
  simp only[upS_len]
  by_cases e:q=p
  ·subst e;simp;omega
  ·simp [e]) ps.length,if_pos hp]
theorem lft_le {ps:List Pr} {l:List Syn} {S:Nat→List (List Int)} (h:GenX ps l S):lftX ps S≤off ps ps.length:=by
 unfold lftX
 rw[← tot_off ps.length (Nat.le_refl _)]
 exact totS_le2 _ fun q _=>by have:=h.pos q;omega
theorem ex_ex (ps:List Pr) (l:List Syn):∃S,GenX ps l S∧∀p,¬RdyX ps l S p:=by
 suffices h:∀n S,GenX ps l S→lftX ps S≤n→∃S,GenX ps l S∧∀p,¬RdyX ps l S p from h _ _ .init (Nat.le_refl _)
 intro n
 induction n with
 | zero =>
  intro S hG h
  refine⟨S,hG,fun p hr => ?_⟩
  have:=lft_up hr.1 hr.2.1 (vecX ps l S p (S p).length)
  omega
 | succ n ih =>
  intro S hG h
  by_cases hx:∃p,RdyX ps l S p
  ·obtain⟨p,hr⟩:=hx
   have:=lft_up hr.1 hr.2.1 (vecX ps l S p (S p).length)
   exact ih _ (hG.step hr) (by omega)
  ·exact⟨S,hG,fun p hr=>hx ⟨p,hr⟩⟩
theorem exF_gen (ps:List Pr) (l:List Syn):GenX ps l (exF ps l):=by
 obtain⟨S,h1,h2⟩:=ex_ex ps l
 rw[exF_eq h1 h2];exact h1
theorem exF_stop (ps:List Pr) (l:List Syn):∀p,¬RdyX ps l (exF ps l) p:=by
 obtain⟨S,h1,h2⟩:=ex_ex ps l
 rw[exF_eq h1 h2];exact h2
theorem totS_zero {f:Nat→Nat} : ∀n,totS n f=0↔∀p,p<n→f p=0
 | 0=>by simp [totS]
 | n+1=>by
  rw[totS_succ,Nat.add_eq_zero_iff,totS_zero n]
  constructor
  ·rintro⟨h1,h2⟩ p hp
   by_cases e:p=n
   ·subst e;exact h2
   ·exact h1 p (by omega)
  ·exact fun h=>⟨fun p hp=>h p (by omega),h n (by omega)⟩
theorem lft_whl {ps:List Pr} {l:List Syn} {S:Nat→List (List Int)} (h:GenX ps l S):lftX ps S=0↔WhlX ps S:=by
 unfold lftX WhlX
 rw[totS_zero]
 constructor
 ·intro g p hp
  have:=g p hp
  have:=h.top p
  omega
 ·intro g p hp
  have:=g p hp
  omega
theorem rnk_sub {ps:List Pr} {l l':List Syn} (h:∀s ∈ l',s ∈ l) {r:Eid→Nat} (hr:RnkX ps l r):RnkX ps l' r:=fun p hp i hi y hy=>by
 refine hr p hp i hi y ?_
 unfold dirX at hy ⊢
 rcases List.mem_append.1 hy with hy|hy
 ·exact List.mem_append_left _ hy
 ·obtain⟨s,h1,rfl⟩:=List.mem_map.1 hy
  obtain⟨h2,h3⟩:=List.mem_filter.1 h1
  exact List.mem_append_right _ (List.mem_map.2 ⟨s,List.mem_filter.2 ⟨h s h2,h3⟩,rfl⟩)
theorem synOk_nil (ps:List Pr):SynOk ps []:=fun _s hs=>nomatch hs
theorem synOk_sub {ps:List Pr} {l l':List Syn} (h:∀s ∈ l',s ∈ l) (hl:SynOk ps l):SynOk ps l':=fun s hs=>hl s (h s hs)
theorem ex_nil_pt {ps:List Pr} (hv:validF ps=true) (hW:WhlX ps (exF ps [])) {p:Nat} (hp:p<ps.length) {i:Nat} (hi:i<nev ps p):stOf (exF ps []) p (i+1)=ptF ps p i:=by
 have hi':i<ps[p].evs.length:=by rw[nev_get hp] at hi;exact hi
 have hG:=exF_gen ps []
 have hst:=hG.st hv (synOk_nil ps) p (i+1) (by rw[hW p hp];omega)
 have hown:=hst.own hp
 have hpt:=pt_isN hv hp hi
 have hptl:(ptF ps p i).length=ps.length:=(isF_iff.1 hpt).1
 have hin:isF ps (stOf (exF ps []) p (i+1))=true:=by
  refine isF_of_CloX hst.len ((inRange_iff hst.len).2 fun q hq => ?_) hst.clo
  have h1:=hst.le q
  have h2:=hG.top q
  have h3:=hst.nn q
  have h4:=nev_get hq
  unfold cAt
  rw[Int.toNat_natCast]
  omega
 refine List.ext_getElem (by rw[hst.len,hptl]) fun q h1 h2 => ?_
 have hq:q<ps.length:=by rw[hst.len] at h1;exact h1
 have a1:=hst.least (fun j=>(ptF ps p i).getD j 0) (CloX.of_isF hv hpt) (fun j=>by
  by_cases hj:j<ps.length
  ·have:=((inRange_iff hptl).1 (isF_iff.1 hpt).2.1 j hj).1
   unfold cAt at this;rwa [Int.toNat_natCast] at this
  ·rw[List.getD_eq_getElem?_getD,List.getElem?_eq_none (by omega)];exact Int.le_refl _) (by
  have:=pt_has (ps:=ps) (p:=p) (i:=i) hv hp hi'
  unfold cAt at this;rw[Int.toNat_natCast] at this;omega) q
 have a2:=pt_least hv hp hin (show (i:Int)+1≤cAt _ p by unfold cAt;rw[Int.toNat_natCast,hown];omega) q hq
 unfold cAt at a2
 rw[Int.toNat_natCast] at a2
 have e1:(stOf (exF ps []) p (i+1)).getD q 0=(stOf (exF ps []) p (i+1))[q]:=by rw[List.getD_eq_getElem?_getD,List.getElem?_eq_getElem h1,Option.getD_some]
 have e2:(ptF ps p i).getD q 0=(ptF ps p i)[q]:=by rw[List.getD_eq_getElem?_getD,List.getElem?_eq_getElem h2,Option.getD_some]
 rw[e1,e2] at a1 a2
 exact Int.le_antisymm a1 a2
theorem nil_whl {ps:List Pr} (hv:validF ps=true):WhlX ps (exF ps []):=by
 obtain⟨R,h1,h2,h3⟩:=wlk_go hv (zeroC_is ps) (fullC_is hv) ((leq_at (isF_iff.1 (zeroC_is ps)).1 (isF_iff.1 (fullC_is hv)).1).2 fun q hq=>by rw[fullC_at hq];unfold zeroC cAt;rw[getD_zeros];omega)
 exact whl_of hv (synOk_nil ps) (rnk_sub (l':=[]) (fun s (hs:s ∈ [])=>absurd hs (List.not_mem_nil)) (syn_rnk hv h2 h3.1)) (exF_gen ps []) (exF_stop ps [])
end Go.AL
end
