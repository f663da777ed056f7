/- Texts of this claim's proof: WLo, WLp, WLq, WNd, WBs, WSb, WAw, WSr, WOf, WWl. No condition. -/
import Derived.Test.YtbegiibjiidkmaaGreatDoorM10
import Derived.Test.YtbegiibjiidkmaaGreatDoorM12
import Derived.Test.YtbegiibjiidkmaaGreatDoorM7
section
namespace Go.AL
open Go Go.RowKit Proofs.Tryz
set_option maxRecDepth 4000
theorem lcl_mk (pr k n p q:Int)(s:ByteArray)(l:List Pd):lclB pr (.mk k n p q s l)=if k=4\/(18<=k/\k<=21) then false else if k=2\/k=3 then decide (p=pr) else true:=rfl
theorem evaluate_local (pr:Int)(t:Pd):szF t<=1000000->allB locB t=true->PC prog 180 [ai pr,aPd t] (ab (allB (lclB pr) t)):=by
 induction t using Pd.ind with
 | _ k n p q s l ih =>
 intro hz ht
 have hsz:szF (.mk k n p q s l)=szL l+1:=by rw[szF]
 have hll:=szL_len l
 obtain⟨ht1,ht2⟩:=allB_sub ht
 obtain⟨hpl,_⟩:=loc_len ht1
 have hsp:allB (lclB pr) (.mk k n p q s l)=((if k=4\/(18<=k/\k<=21) then false else if k=2\/k=3 then decide (p=pr) else true) && l.all (allB (lclB pr))):=by rw[allB_mk,lcl_mk]
 have h1:∀x ∈ l,PV prog (.clo 221 [.rp 1 [ai pr] 0 0]) [aPd x] (ab (!allB (lclB pr) x)):=by
  intro x hx
  have hxi:=szL_mem hx
  have hch:=ih x hx (by omega) (ht2 x hx)
  generalize allB (lclB pr) x=b at *
  obtain⟨k2,n2,p2,q2,s2,l2⟩:=x
  refine PC.clo ?_
  simp only[aPd_mk] at *
  refine PE 8 [.tmp 3] [2] func221 ?_;simp only[go_sem]
  refine Wk ?_
  refine Sd ?_
  refine Vu hch ?_
  refine Wk ?_
  exact Rz
 have hc:=preds_containsFunc l (by omega) _ rfl (fun x=>!allB (lclB pr) x) h1
 have hall:l.all (allB (lclB pr)) = !l.any fun x=>!allB (lclB pr) x:=by rw[List.all_eq_not_any_not]
 rw[hall] at hsp
 clear h1 ih
 by_cases c1:k=4\/k=18\/k=19\/k=20\/k=21
 ·rw[if_pos (by omega),Bool.false_and] at hsp
  rw[hsp]
  clear hsp hall hc
  simp only[aPd_mk] at *
  rcases c1 with rfl|rfl|rfl|rfl|rfl
  all_goals refine PE 25 [.tmp 4] [2,3] func180 ?_;simp only[go_sem]
  all_goals repeat(first|((with_reducible refine AWp.ofC ?_ ?_);exact rfl;simp only[go_sem,Int.reduceEq])|((with_reducible refine an ?_ ?_);exact Au))
  all_goals refine ret_eq ?_;simp only[go_sem]
 rw[if_neg (by omega)] at hsp
 by_cases c2:k=2\/k=3
 ·have hl0:l=[]:=by
   have:partsF k=0:=by rcases c2 with rfl|rfl <;> rfl
   exact len0 (by omega)
  subst hl0
  rw[if_pos c2] at hsp
  simp only[List.any_nil,Bool.not_false,Bool.and_true] at hsp
  rw[hsp]
  clear hsp hall hc
  simp only[aPd_mk] at *
  rcases c2 with rfl|rfl
  all_goals refine PE 25 [.tmp 4] [2,3] func180 ?_;simp only[go_sem]
  all_goals repeat(first|((with_reducible refine AWp.ofC ?_ ?_);exact rfl;simp only[go_sem,Int.reduceEq])|((with_reducible refine an ?_ ?_);exact Au))
  all_goals refine ret_eq ?_;simp only[go_sem]
 rw[if_neg c2,Bool.true_and] at hsp
 rw[hsp]
 generalize (l.any fun x=>!allB (lclB pr) x)=b at *
 clear hsp hall
 have a4:¬k=4:=by omega
 have a18:¬k=18:=by omega
 have a19:¬k=19:=by omega
 have a20:¬k=20:=by omega
 have a21:¬k=21:=by omega
 have a2:¬k=2:=by omega
 have a3:¬k=3:=by omega
 simp only[aPd_mk] at *
 refine PE 25 [.tmp 4] [2,3] func180 ?_;simp only[go_sem]
 repeat(first|((with_reducible refine AWp.ofC ?_ ?_);exact rfl;simp only[go_sem,a2,a3,a4,a18,a19,a20,a21])|((with_reducible refine an ?_ ?_);exact Au))
 refine Sd ?_
 refine Vu hc ?_
 refine Wk ?_
 exact Rz
theorem evaluate_check (ps:List Pr)(hs:Sm ps)(pr k:Int)(t:Pd)(hz:szF t<=1000000):PC prog 140 [aTr ps,ai pr,ai k,aPd t] (ai (lclF ps pr k t)):=by
 have h1:=predtype_Check ps hs t hz
 have h2:=fun a b=>evaluate_typed t hz a b 2
 have h3:=fun a=>evaluate_local pr t hz a
 have hl:=hs.procs
 have hel:=fun x hx=>hs.evs x hx
 have hck:checkF ps t=0->formedB t=true/\typedB t=true/\allB locB t=true:=fun h=>by
  obtain⟨_,f2,f3,_⟩:=checkF_zero h
  unfold okT at f3
  simp only[Bool.and_eq_true] at f3
  exact⟨f2,f3.2,f3.1.1⟩
 have hn1:checkF ps t=0->1<=ps.length:=fun h=>(valid_len (checkF_zero h).1).1
 have hE:lclF ps pr k t=if checkF ps t ≠ 0 then checkF ps t else if ¬(0<=pr/\pr<ps.length/\0<=k/\k<=evN ps pr) then 2 else if t.kind<=8 then 14 else if allB (lclB pr) t=false then 15 else 0:=rfl
 have hr:resF t.kind=2↔¬t.kind<=8:=by unfold resF;split <;> omega
 generalize lclF ps pr k t=E at *
 generalize checkF ps t=e at *
 generalize formedB t=f at *
 generalize typedB t=y at *
 generalize allB locB t=lb at *
 generalize allB (lclB pr) t=a at *
 generalize t.kind=kd at *
 obtain⟨k0,n,p,q,s,l⟩:=t
 simp only[aPd_mk] at *
 by_cases he:e=0
 ·subst he
  rw[if_neg (by decide)] at hE
  obtain⟨c1,c2,c3⟩:=hck rfl
  have hn1:=hn1 rfl
  have h2:=h2 c1 c2
  have h3:=h3 c3
  by_cases hp:0<=pr/\pr<ps.length
  ·obtain⟨i,rfl⟩:∃i:Nat,pr=i:=⟨pr.toNat,by omega⟩
   have hpi:i<ps.length:=by omega
   have hgp:=getD_map (f:=aPr) hpi
   rw[evN_get hpi] at hE
   have n1:¬(i:Int)<0:=by omega
   have n2:¬(ps.length:Int)<=i:=by omega
   by_cases hk:0<=k/\k<=ps[i].evs.length
   ·rw[if_neg (by omega)] at hE
    have n3:¬k<0:=by omega
    have n4:¬(ps[i].evs.length:Int)<k:=by omega
    by_cases hk8:kd<=8
    ·rw[if_pos hk8] at hE
     rw[if_neg (fun h=>hr.1 h hk8)] at h2
     refine PE 50 [.tmp 8] [4,7] func140 ?_;simp only[go_sem]
     refine Wk ?_
     refine Sd ?_
     refine(h1).val.use ?_;simp only[go_sem,n1,n2,n3,n4,hgp]
     refine W5 n1 n2 n3 n4 hgp ?_
     refine Sd ?_
     refine Vu h2 ?_
     repeat(first|((with_reducible refine AWp.ofC ?_ ?_);exact rfl;simp only[go_sem,Int.reduceEq])|((with_reducible refine an ?_ ?_);exact Au))
     refine Rq ?_
     rw[hE]
    rw[if_neg hk8] at hE
    rw[if_pos (hr.2 hk8)] at h2
    refine PE 50 [.tmp 8] [4,7] func140 ?_;simp only[go_sem]
    refine Wk ?_
    refine Sd ?_
    refine(h1).val.use ?_;simp only[go_sem,n1,n2,n3,n4,hgp]
    refine W5 n1 n2 n3 n4 hgp ?_
    refine Sd ?_
    refine Vu h2 ?_
    repeat(first|((with_reducible refine AWp.ofC ?_ ?_);exact rfl;simp only[go_sem,Int.reduceEq])|((with_reducible refine an ?_ ?_);exact Au))
    refine Sd ?_
    refine Vu h3 ?_
    refine Wk ?_
    constructor<;>intro h5
    ·rw[if_pos h5] at hE
     refine Wk ?_
     refine Rq ?_
     rw[hE]
    ·rw[if_neg (by rw[h5];decide)] at hE
     refine Wk ?_
     refine Rq ?_
     rw[hE]
   ·rw[if_pos (by omega)] at hE
    refine PE 50 [.tmp 8] [4,7] func140 ?_;simp only[go_sem]
    refine Wk ?_
    refine Sd ?_
    refine(h1).val.use ?_;simp only[go_sem,n1,n2,hgp]
    refine W3 n1 n2 hgp ?_
    constructor<;>intro h5
    ·refine Wk ?_
     refine Rq ?_
     rw[hE]
    ·intros;omega
  ·rw[if_pos (by omega)] at hE
   by_cases hp0:pr<0
   ·have hgx:(ps.map aPr).getD pr.toNat .any=aPr (ps[0]'(by omega)):=by
     rw[show pr.toNat=0 by omega];exact getD_map (by omega)
    refine PE 50 [.tmp 8] [4,7] func140 ?_;simp only[go_sem]
    refine Wk ?_
    refine Sd ?_
    refine(h1).val.use ?_;simp only[go_sem,hp0,hgx]
    refine W2 hp0 hgx ?_
    refine Rq ?_
    rw[hE]
   ·have hp1:(ps.length:Int)<=pr:=by omega
    have hgx:(ps.map aPr).getD pr.toNat .any = .any:=by
     rw[List.getD_eq_getElem?_getD,List.getElem?_eq_none (by rw[List.length_map];omega)];rfl
    refine PE 50 [.tmp 8] [4,7] func140 ?_;simp only[go_sem]
    refine Wk ?_
    refine Sd ?_
    refine(h1).val.use ?_;simp only[go_sem,hp0,hp1,hgx,List.getD_nil]
    repeat(first|((with_reducible refine AWp.ofC ?_ ?_);exact rfl;simp only[go_sem,hp0,hp1,hgx,List.getD_nil])|((with_reducible refine an ?_ ?_);exact Au))
    refine Rq ?_
    rw[hE]
 ·rw[if_pos he] at hE
  refine PE 50 [.tmp 8] [4,7] func140 ?_;simp only[go_sem]
  refine Wk ?_
  refine Sd ?_
  refine Vu h1 ?_
  refine W1 he ?_
  refine Rq ?_
  rw[hE]
theorem ref28_Type (t:Pd)(hz:szF t<=1000000)(h1:formedB t=true)(h2:typedB t=true):PC prog 123 [aPd t] (.tup [ai (resF t.kind),ai 0]):=by
 have g1:=ref28_Formed t hz
 have hl:allB locB t=true:=by unfold formedB at h1;simp only[Bool.and_eq_true] at h1;exact h1.2
 have g2:=ref28_typed t hz hl
 rw[show allB typB t=true from h2] at g2
 rw[h1] at g1
 obtain⟨k,n,p,q,s,l⟩:=t
 have g3:=ref28_kind k n p q s l
 simp only[aPd_mk,Pd.kind] at *
 generalize resF k=r at *
 refine PE 12 [.tmp 2,.tmp 3] [1] func123 ?_;simp only[go_sem]
 refine Wk ?_
 refine Sd ?_
 refine Vu g1 ?_
 refine Wk ?_
 refine Sd ?_
 refine Vu g2 ?_
 refine Wk ?_
 refine Sd ?_
 refine Vu g3 ?_
 refine Wk ?_
 exact Rz
noncomputable def treeF (ps:List Pr)(t:Pd)(w:Int):Int:=if checkF ps t ≠ 0 then checkF ps t else if resF t.kind ≠ w then 14 else 0
theorem ref29_Tree (ps:List Pr)(hs:Sm ps)(t:Pd)(hz:szF t<=1000000)(w:Int):PC prog 75 [aTr ps,aPd t,ai w] (ai (treeF ps t w)):=by
 have h1:=ref28_Check ps hs t hz
 have h2:=ref28_Type t hz
 have hck:checkF ps t=0->formedB t=true/\typedB t=true:=fun h=>by
  obtain⟨_,f2,f3,_⟩:=checkF_zero h
  unfold okT at f3
  simp only[Bool.and_eq_true] at f3
  exact⟨f2,f3.2⟩
 have hE:treeF ps t w=if checkF ps t ≠ 0 then checkF ps t else if resF t.kind ≠ w then 14 else 0:=rfl
 generalize treeF ps t w=E at *
 generalize checkF ps t=e at *
 generalize resF t.kind=r at *
 generalize formedB t=f at *
 generalize typedB t=y at *
 obtain⟨k,n,p,q,s,l⟩:=t
 simp only[aPd_mk] at *
 by_cases he:e=0
 ·subst he
  rw[if_neg (by decide)] at hE
  have h2:=h2 (hck rfl).1 (hck rfl).2
  refine PE 24 [.tmp 6] [3,4] func75 ?_;simp only[go_sem]
  refine Wk ?_
  refine Sd ?_
  refine Vu h1 ?_
  refine Wk ?_
  refine Sd ?_
  refine Vu h2 ?_
  refine Wk ?_
  constructor<;>intro h3
  ·rw[if_pos h3] at hE
   refine Wk ?_
   refine Rq ?_
   rw[hE]
  ·rw[if_neg (by simpa using h3)] at hE
   refine Wk ?_
   refine Rq ?_
   rw[hE]
 ·rw[if_pos he] at hE
  refine PE 24 [.tmp 6] [3,4] func75 ?_;simp only[go_sem]
  refine Wk ?_
  refine Sd ?_
  refine Vu h1 ?_
  refine W1 he ?_
  refine Rq ?_
  rw[hE]
theorem stC_len (n p:Nat)(k:Int):(stC n p k).length=n:=by unfold stC;rw[List.length_set,List.length_replicate]
theorem stC_get {n p:Nat}{k:Int}(hp:p<n):(stC n p k).getD p 0=k:=by
 unfold stC;rw[List.getD_eq_getElem?_getD,List.getElem?_set_self (by simpa using hp)];rfl
theorem stC_get? {n p:Nat}{k:Int}(hp:p<n):(stC n p k)[p]?=some k:=by
 unfold stC;rw[List.getElem?_set_self (by simpa using hp)]
def stV (n p:Nat)(st:List Int):List (List Int):=(List.replicate n []).set p st
theorem stV_len (n p:Nat)(st:List Int):(stV n p st).length=n:=by unfold stV;rw[List.length_set,List.length_replicate]
theorem stV_get {n p:Nat}{st:List Int}(hp:p<(stV n p st).length):(stV n p st)[p]=st:=by simp [stV]
theorem st_leaf (ps:List Pr)(hs:Sm ps)(hv:validF ps=true)(p k:Nat)(hp:p<ps.length)(hk:k<=ps[p].evs.length)(t:Pd)(hr:allB (resB ps) t=true)(hn:allB (lclB p) t=true) :
  AllP (leafOk ps (stC ps.length p k) (stV ps.length p (stateAt ps[p] k)) (stO ps p k)) t/\AllP (obsB ps (stO ps p k)) t/\AllP (leafR ps (stC ps.length p k) (stO ps p k)) t:=by
 have hb:=allB_and t hr hn
 have hvar:∀s,(stO ps p k).var p s=(stateAt ps[p] k).getD (varIx ps[p].vars s).toNat 0:=fun s=>by
  unfold stO cutO;simp only[Int.toNat_natCast,List.getElem?_eq_getElem hp,stC_get hp]
 have hcnt:(stO ps p k).cnt p=k:=by
  unfold stO cutO;simp only[Int.toNat_natCast,stC_get hp]
 have hx:∀x:Pd,andB (resB ps) (lclB p) x=true->∀kk n pr q s l,x = .mk kk n pr q s l->((kk=2\/kk=3)->pr=p)/\kk ≠ 4/\(kk=2->knownB ps pr s=true):=fun x h kk n pr q s l e=>by
  subst e
  unfold andB at h
  rw[Bool.and_eq_true] at h
  have h2:=h.2
  rw[lcl_mk] at h2
  have n4:¬(kk=4\/(18<=kk/\kk<=21)):=fun h=>by rw[if_pos h] at h2;cases h2
  rw[if_neg n4] at h2
  refine⟨fun e=>?_,by omega,fun e=>((res_leaf h.1).1 e).2⟩
  rw[if_pos e] at h2
  simpa using h2
 refine⟨AllP_of_allB (fun x h=>?_) t hb,AllP_of_allB (fun x h=>?_) t hb,AllP_of_allB (fun x h=>?_) t hb⟩
 ·obtain⟨kk,n,pr,q,s,l⟩:=x
  obtain⟨g1,g2,g3⟩:=hx _ h _ _ _ _ _ _ rfl
  refine⟨fun e=>?_,fun e=>?_,fun e=>absurd e g2⟩
  ·obtain rfl:=g1 (.inl e)
   have hV:p<(stV ps.length p (stateAt ps[p] k)).length:=by rw[stV_len];exact hp
   have h:=view_variable ps hs (stC ps.length p k) (stV ps.length p (stateAt ps[p] k)) kk n p q s l hp (g3 e) hV (by rw[stV_get hV,stateAt_length])
   rw[stV_get hV] at h
   rw[hvar];exact h
  ·obtain rfl:=g1 (.inr e)
   exact⟨by omega,by rw[hcnt,Int.toNat_natCast,stC_get? hp]⟩
 ·obtain⟨kk,n,pr,q,s,l⟩:=x
  obtain⟨g1,g2,g3⟩:=hx _ h _ _ _ _ _ _ rfl
  refine⟨fun e=>?_,fun e=>?_,fun e=>absurd e g2⟩
  ·obtain rfl:=g1 (.inl e)
   have hm:=valsF_mem ps[p] (varIx ps[p].vars s).toNat (k:=k) hk
   rw[hvar]
   unfold varLo varHi
   simp only[Int.toNat_natCast,List.getElem?_eq_getElem hp]
   exact⟨minL_le hm,le_maxL hm⟩
  ·obtain rfl:=g1 (.inr e)
   rw[hcnt,evN_get hp]
   exact⟨by omega,by omega⟩
 ·obtain⟨kk,n,pr,q,s,l⟩:=x
  obtain⟨g1,g2,g3⟩:=hx _ h _ _ _ _ _ _ rfl
  refine⟨fun e=>?_,fun e=>?_,fun e=>absurd e g2⟩
  ·obtain rfl:=g1 (.inl e)
   have hpb:isPB ps.length p=true:=by unfold isPB;simp;omega
   have h1:=ref25_Index ps hs p hpb s
   rw[varX_get hp] at h1
   obtain⟨i,hi,hil⟩:=known_ix (known_get hp (g3 e))
   have h2:=ref25_Value ps hs p hp i hil k hk (asg_of_valid hv p hp) (dis_of_valid hv p hp)
   rw[hi] at h1
   refine⟨_,_,h1,?_,by omega,by rw[Int.toNat_natCast,stC_get? hp]⟩
   rw[hvar,hi,Int.toNat_natCast,List.getD_eq_getElem?_getD,List.getElem?_eq_getElem (by rw[stateAt_length];exact hil)]
   exact h2
  ·obtain rfl:=g1 (.inr e)
   exact⟨by omega,by rw[hcnt,Int.toNat_natCast,stC_get? hp]⟩
theorem variable_State (ps:List Pr)(hs:Sm ps)(hv:validF ps=true)(p k:Nat)(hp:p<ps.length)(hk:k<=ps[p].evs.length):PC prog 181 [aTr ps,ai p,ai k] (.tup [aInts (stateAt ps[p] k),ai 0]):=by
 have hm:=List.getElem_mem hp
 have h1:=trace_Valid ps hs
 rw[hv] at h1
 have h2:=variable_state ps[p] (hs.vars _ hm) (hs.evs _ hm) (hs.asg _ hm) (asg_of_valid hv p hp) k hk
 have hl:=hs.procs
 have hel:=hs.evs _ hm
 have hgp:=getD_map (f:=aPr) hp
 have n1:¬(p:Int)<0:=by omega
 have n2:¬(ps.length:Int)<=p:=by omega
 have n3:¬(k:Int)<0:=by omega
 have n4:¬(ps[p].evs.length:Int)<k:=by omega
 generalize stateAt ps[p] k=S at *
 refine PE 44 [.tmp 6,.tmp 7] [3] func181 ?_;simp only[go_sem]
 refine Wk ?_
 refine Sd ?_
 refine(h1).val.use ?_;simp only[go_sem,n1,n2,n3,n4,hgp]
 refine W5 n1 n2 n3 n4 hgp ?_
 refine Sd ?_
 refine Vu h2 ?_
 refine Wk ?_
 exact Rz
theorem lcl_ntm {p:Int}(t:Pd):allB (lclB p) t=true->allB ntmB t=true:=by
 induction t using Pd.ind with
 | _ k n pr q s l ih =>
 intro h
 obtain⟨h1,h2⟩:=allB_sub h
 rw[allB_mk,Bool.and_eq_true,List.all_eq_true]
 refine⟨?_,fun x hx=>ih x hx (h2 x hx)⟩
 rw[lcl_mk] at h1
 unfold ntmB tempB
 split at h1
 ·cases h1
 ·rename_i h;simp;omega
theorem lcl_ok {ps:List Pr}{p:Nat}{k:Int}{t:Pd}(h:lclF ps p k t=0):checkF ps t=0/\p<ps.length/\0<=k/\k<=evN ps p/\9<=t.kind/\allB (lclB p) t=true:=by
 unfold lclF at h
 split at h
 ·rename_i h1;exact absurd h h1
 ·rename_i h1
  split at h
  ·cases h
  ·rename_i h2
   split at h
   ·cases h
   ·rename_i h3
    split at h
    ·cases h
    ·rename_i h4
     exact⟨by simpa using h1,by omega,by omega,by omega,by omega,by simpa using h4⟩
theorem evaluate_inState (ps:List Pr)(hs:Sm ps)(p k:Nat)(hp:p<ps.length)(hk:k<=ps[p].evs.length)(t:Pd)(hz:szF t<=1000000)(hc:checkF ps t=0)(h9:9<=t.kind)(hl:allB (lclB p) t=true) :
  PC prog 141 [aTr ps,ai p,ai k,aPd t] (ab (lclT ps p t k)):=by
 obtain⟨hv,_,hok,hfit⟩:=checkF_zero hc
 have hok':=hok
 unfold okT at hok'
 simp only[Bool.and_eq_true] at hok'
 obtain⟨l1,l2,_⟩:=st_leaf ps hs hv p k hp hk t hok'.1.2 hl
 have hn:=hs.procs
 have h1:=view_truth ps (stC ps.length p k) (stV ps.length p (stateAt ps[p] k)) (stO ps p k) (by rw[stC_len];omega) t hz hok h9 hfit (lcl_ntm t hl) l2 l1
 have h2:=variable_State ps hs hv p k hp hk
 unfold lclT
 generalize truF (stO ps p k) t=b at *
 obtain⟨kk,n,pr,q,s,l⟩:=t
 have hC:(stC ps.length p k).map ai=(List.replicate ps.length (ai 0)).set p (ai k):=by unfold stC;rw[List.map_set,List.map_replicate]
 have hTr:aTr ps = .agg [aPrs ps]:=rfl
 generalize hS:stateAt ps[p] k=S at *
 simp only[aPd_mk] at *
 refine PE 39 [.tmp 8] [4,7,9] func141 ?_;simp only[go_sem]
 refine Wk ?_
 refine AWp.cut [1,2,4,7,9] (fun vs L=>∃bc bv,L.Perm [(bv,.row 95 1 (List.replicate ps.length anil) ps.length),(bc,.row 3 1 (List.replicate ps.length (ai 0)) ps.length)] /\
  vs=[ai p,ai k,.rp 1 [aTr ps] 0 0,.rp 6 [.agg [ai kk,ai n,ai pr,ai q,astr s,.sl 6 (l.map aPd)]] 0 0,.rp 3 [.agg [aPrs ps,.ls bc 1 0 ps.length ps.length,.ls bv 1 0 ps.length ps.length]] 0 0]) ?_ ?_
 ·refine Sq ?_
  refine AWp.mix mixed [0,1,2,3,5,6,7] (.step 4 (.step 8 (.step 9 (.step 10 (.step 11 .done .done) .done) (.step 10 (.step 9 (.step 11 .done .done) .done) .done)) (.step 10 (.step 8 (.step 9 (.step 11 .done .done) .done) .done) .done)) (.step 8 (.step 4 (.step 9 (.step 10 (.step 11 .done .done) .done) (.step 10 (.step 9 (.step 11 .done .done) .done) .done)) (.step 10 (.step 4 (.step 9 (.step 11 .done .done) .done) .done) .done)) (.step 10 (.step 4 (.step 8 (.step 9 (.step 11 .done .done) .done) .done) (.step 8 (.step 4 (.step 9 (.step 11 .done .done) .done) .done) .done)) .done))) (by kernel_rfl) ?_;simp only[go_sem]
  repeat' (first|(with_reducible refine And.intro ?_ ?_)|intro _)
  all_goals first|omega|skip
  all_goals ((repeat rw[if_neg (by omega)]);(try simp only[go_sem]))
  all_goals (repeat' (first|(with_reducible refine And.intro ?_ ?_)|intro _))
  all_goals first|omega|exact⟨_,.refl _,_,_,.refl _,rfl⟩|exact⟨_,.refl _,_,_,.swap _ _ _,rfl⟩
 ·rintro vs L - ⟨bc,bv,hP,rfl⟩
  refine AWp.perm hP (AWp.nodup fun hnd=>?_)
  have n1:¬bv=bc:=by simpa using hnd
  have n2:¬bc=bv:=fun e=>n1 e.symm
  have hg0:(List.replicate ps.length (ai 0)).getD p .any=ai 0:=by rw[List.getD_eq_getElem?_getD,List.getElem?_replicate,if_pos hp];rfl
  have hg1:(List.replicate ps.length anil).getD p .any=anil:=by rw[List.getD_eq_getElem?_getD,List.getElem?_replicate,if_pos hp];rfl
  simp only[go_sem]
  refine Sd ?_
  refine AWp.of ?_;simp only[go_sem,n1,n2,hg0,List.length_replicate]
  refine Sd ?_
  rw[<- hC]
  refine AWp.seq ?_
  refine Sq ?_
  refine AWp.mix mixed [0,1,2,3,4,5,6,7,8,9] (.step 10 (.step 11 .done .done) .done) (by kernel_rfl) ?_;simp only[go_sem,n1,n2,hg1]
  refine Sd ?_
  refine GCall.use (.tup [aInts S,ai 0]) (fun _=>⟨At,(h2).val.use ⟨rfl,rfl⟩⟩) ?_;simp only[go_sem,n1,n2,hg1]
  refine Sd ?_
  refine AWp.view [true,true] [(9,.rp 3 [aView ps (stC ps.length p k) (stV ps.length p S)] 0 0)] (LVw.refl _) (fun x hx=>?_) ?_
  ·simp only[List.mem_singleton] at hx
   subst hx
   simp only[go_sem,pickT]
   refine .rp rfl (Vws.cons (.mkAgg (Vws.cons (.refl _) (Vws.cons (Vw.ofLs (t:=3) (cap:=ps.length) (by simp [lk,n2]) (by rw[List.length_map,stC_len])) (Vws.cons ?_ .nil)))) .nil).2
   refine .ls (t:=95) (xs:=(List.replicate ps.length anil).set p (aInts S)) (cap:=ps.length) (by simp [lk,aInts]) (by simp) (by simp [stV]) fun i x y hx hy=>?_
   rw[List.drop_zero,List.take_of_length_le (by simp),List.getElem?_set] at hx
   unfold stV at hy
   rw[List.map_set,List.getElem?_set] at hy
   by_cases e:p=i
   ·subst e
    simp [hp] at hx hy
    subst hx;subst hy;exact .refl _
   ·rw[if_neg e,List.getElem?_replicate] at hx
    rw[if_neg e,List.getElem?_map,List.getElem?_replicate] at hy
    by_cases h5:i<ps.length
    ·rw[if_pos h5] at hx hy
     cases hx;cases hy
     exact .nil 1
    ·rw[if_neg h5] at hx;cases hx
  ·simp only[go_sem,pickF]
   refine Wk ?_
   refine Sd ?_
   refine Vu h1 ?_
   refine Wk ?_
   exact Rz
theorem truthsF_nat {ps:List Pr}{p:Nat}(hp:p<ps.length)(t:Pd):truthsF ps p t=(List.range (ps[p].evs.length+1)).map fun (k:Nat)=>lclT ps p t k:=by
 unfold truthsF;rw[evN_get hp,Int.toNat_natCast]
noncomputable def aTruths (ps:List Pr)(p:Int)(t:Pd):AV:=if lclF ps p 0 t=0 then .tup [.sl 1 ((truthsF ps p.toNat t).map ab),ai 0] else .tup [.sl 1 [],ai (lclF ps p 0 t)]
theorem evaluate_Truths (ps:List Pr)(hs:Sm ps)(p:Int)(t:Pd)(hz:szF t<=1000000):PC prog 93 [aTr ps,ai p,aPd t] (aTruths ps p t):=by
 have h1:=evaluate_check ps hs p 0 t hz
 have hl:=hs.procs
 unfold aTruths
 by_cases he:lclF ps p 0 t=0
 ·rw[if_pos he]
  rw[he] at h1
  have hp0:0<=p:=by
   unfold lclF at he
   split at he
   ·rename_i h;exact absurd he h
   ·split at he
    ·cases he
    ·rename_i h;omega
  obtain⟨i,rfl⟩:∃i:Nat,p=i:=⟨p.toNat,by omega⟩
  rw[Int.toNat_natCast]
  obtain⟨hc,hp,_,_,h9,hlc⟩:=lcl_ok he
  have hel:=hs.evs _ (List.getElem_mem hp)
  have hgp:=getD_map (f:=aPr) hp
  have hst:=fun (k:Nat) hk=>evaluate_inState ps hs i k hp hk t hz hc h9 hlc
  rw[truthsF_nat hp,List.map_map]
  have hy:∀k,((List.range k).map fun (k:Nat)=>ab (lclT ps i t k)).length=k:=fun k=>by simp
  have hys:∀k,((List.range (k+1)).map fun (k:Nat)=>ab (lclT ps i t k))=((List.range k).map fun (k:Nat)=>ab (lclT ps i t k)) ++ [ab (lclT ps i t k)]:=fun k=>by rw[List.range_succ,List.map_append];rfl
  have hfin:(List.range (ps[i].evs.length+1)).map (ab ∘ fun (k:Nat)=>lclT ps i t k)=(List.range (ps[i].evs.length+1)).map fun (k:Nat)=>ab (lclT ps i t k):=rfl
  rw[hfin]
  obtain⟨k0,n,pp,q,s,l⟩:=t
  simp only[aPd_mk] at *
  generalize hY:(fun k:Nat=>(List.range k).map fun (j:Nat)=>ab (lclT ps i (.mk k0 n pp q s l) j))=Y at *
  have hYk:∀k,((List.range k).map fun (j:Nat)=>ab (lclT ps i (.mk k0 n pp q s l) j))=Y k:=fun k=>by rw[<- hY]
  simp only[hYk] at hy hys ⊢
  refine PE 39 [.tmp 6,.tmp 7] [3,5,35] func93 ?_;simp only[go_sem]
  refine Wk ?_
  refine Sd ?_
  refine Vu h1 ?_
  refine W1 hgp ?_
  refine AWp.range' (ps[i].evs.length+1) [9] [1,3,5,25] (fun k vs L=>∃v,vs=[v]/\AppSt 4 1 (Y k) v L) (by omega) rfl rfl rfl ⟨anil,rfl,by rw[<- hY];exact .nil⟩ ?_ ?_
  ·rintro k vs L' hk - ⟨v,rfl,hA⟩
   have hyl:=hy k
   have hst:=hst k (by omega)
   rw[hys k]
   have hfo:=hA.fo
   generalize Y k=ys at *
   generalize lclT ps i (.mk k0 n pp q s l) k=b at *
   rcases hA.inv with ⟨e1,rfl,rfl⟩|⟨b',cap,rfl,rfl⟩
   ·simp only[go_sem]
    refine Wk ?_
    refine Sd ?_
    refine Vu hst ?_
    refine Sd ?_
    intro b' cap' _
    refine⟨_,.refl _,_,rfl,?_⟩
    rw[e1]
    exact .row _ _ _
   ·simp only[go_sem]
    refine Wk ?_
    refine Sd ?_
    refine Vu hst ?_
    refine Sd ?_
    intro b' cap' _
    refine⟨_,.refl _,_,rfl,?_⟩
    have:=AppSt.row (t:=4) (k:=1) b' (ys ++ [ab b]) cap'
    simpa using this
  ·rintro vs L' - ⟨v,rfl,hA⟩
   have hyl:=hy (ps[i].evs.length+1)
   generalize Y (ps[i].evs.length+1)=ys at *
   simp only[go_sem]
   rcases hA.inv with ⟨e1,rfl,rfl⟩|⟨b,cap,rfl,rfl⟩
   ·rw[e1] at hyl;simp at hyl
   ·refine Wk ?_
    refine ret_view [true] ?_;simp only[go_sem]
    exact .mkTup (Vws.cons (Vw.ofLs (if_pos rfl) rfl) (Vws.refl _))
 ·rw[if_neg he]
  generalize lclF ps p 0 t=e at *
  obtain⟨k0,n,pp,q,s,l⟩:=t
  simp only[aPd_mk] at *
  refine PE 39 [.tmp 6,.tmp 7] [3,5,35] func93 ?_;simp only[go_sem]
  refine Wk ?_
  refine Sd ?_
  refine Vu h1 ?_
  refine W1 he ?_
  refine ret_view [] ?_;simp only[go_sem]
  exact .mkTup (Vws.cons (.nil 1) (Vws.refl _))
noncomputable def elimOf (ps:List Pr)(ts:List Pd):Elim where
 n:=ps.length
 top:=nev ps
 ok:=fun p k=>match ts[p]? with|some t=>lclT ps p t k|none=>true
 need:=fun q k p=>cAt (closeF ps (stC ps.length q k)) p
def aStp (s:Stp):AV:=.agg [ai s.1,ai s.2.1,ai s.2.2]
def lclAt (z:Int->Pd->Int)(ts:List Pd)(p:Nat):Int:=match ts[p]? with|some t=>z p t|none=>0
noncomputable def conF (ps:List Pr)(ts:List Pd):Int :=
 if validF ps=true/\ts.length=ps.length then match (List.range ts.length).find? (fun p=>decide (lclAt (fun p t=>lclF ps p 0 t) ts p ≠ 0)) with|some p=>lclAt (fun p t=>lclF ps p 0 t) ts p|none=>0 else 1
theorem conF_bad {ps:List Pr}{ts:List Pd}(h:¬(validF ps=true/\ts.length=ps.length)):conF ps ts=1:=by unfold conF;rw[if_neg h]
theorem conF_hit {ps:List Pr}{ts:List Pd}(h:validF ps=true/\ts.length=ps.length){p:Nat}(hp:p<ts.length)(h0:∀q (hq:q<ts.length),q<p->lclF ps q 0 ts[q]=0)(h1:lclF ps p 0 ts[p] ≠ 0):conF ps ts=lclF ps p 0 ts[p]:=by
 have e:∀q (hq:q<ts.length),lclAt (fun p t=>lclF ps p 0 t) ts q=lclF ps q 0 ts[q]:=fun q hq=>by unfold lclAt;rw[List.getElem?_eq_getElem hq]
 unfold conF
 rw[if_pos h,find_range_of hp (by rw[e p hp];exact decide_eq_true h1) fun q hq=>by rw[e q (by omega),h0 q (by omega) hq];rfl]
 exact e p hp
theorem conF_zero {ps:List Pr}{ts:List Pd}(h:validF ps=true/\ts.length=ps.length)(h0:∀q (hq:q<ts.length),lclF ps q 0 ts[q]=0):conF ps ts=0:=by
 have e:∀q (hq:q<ts.length),lclAt (fun p t=>lclF ps p 0 t) ts q=lclF ps q 0 ts[q]:=fun q hq=>by unfold lclAt;rw[List.getElem?_eq_getElem hq]
 unfold conF
 rw[if_pos h,find_range_no fun q hq=>by rw[e q hq,h0 q hq];rfl]
theorem conF_inv {ps:List Pr}{ts:List Pd}(h:conF ps ts=0):validF ps=true/\ts.length=ps.length/\∀q (hq:q<ts.length),lclF ps q 0 ts[q]=0:=by
 by_cases h1:validF ps=true/\ts.length=ps.length
 ·refine⟨h1.1,h1.2,fun q hq=>?_⟩
  have e:∀q (hq:q<ts.length),lclAt (fun p t=>lclF ps p 0 t) ts q=lclF ps q 0 ts[q]:=fun q hq=>by unfold lclAt;rw[List.getElem?_eq_getElem hq]
  unfold conF at h
  rw[if_pos h1] at h
  cases hf:(List.range ts.length).find? (fun p=>decide (lclAt (fun p t=>lclF ps p 0 t) ts p ≠ 0)) with
  | some p =>
   rw[hf] at h
   have:=(find_range hf).2.1
   have h:lclAt (fun p t=>lclF ps p 0 t) ts p=0:=h
   rw[h] at this;simp at this
  | none =>
   have:=find_range_none hf q hq
   rw[e q hq] at this
   simpa using this
 ·rw[conF_bad h1] at h;cases h
theorem AWp.only {C:Cfg}{cd:Code}{Q:AQ}{ρ:Env}{L:AHeap}(ks:List Nat)(h:AWp C cd Q (ks.zip (ks.map (get ρ))) L):AWp C cd Q ρ L :=
 AWp.st (fun w0 M A0 a w hh=>st_forget hh (get_zip ks ρ)) h
def aSp (s:Int × Int × Int):AV:=.agg [ai s.1,ai s.2.1,ai s.2.2]
def aSps (l:List (Int × Int × Int)):AV:=.sl 3 (l.map aSp)
theorem stC_cAt {n p q:Nat}{k:Int}(hq:q<n):cAt (stC n p k) q=if p=q then k else 0:=by
 rw[cAt_nat (by rw[stC_len];exact hq)]
 unfold stC
 rw[List.getElem_set,List.getElem_replicate]
theorem need_le {ps:List Pr}(hv:validF ps=true){d:List Int}(hd:d.length=ps.length)(hr:inRangeF ps d=true)(hcl:closedF ps d=true){q k:Nat}(hq:q<ps.length)(hk:(k:Int)<=cAt d q):∀p,p<ps.length->cAt (closeF ps (stC ps.length q k)) p<=cAt d p:=by
 have h0:=(inRange_iff hd).1 hr
 obtain⟨a1,a2⟩:=stC_ok (k:=(k:Int)) hq (by omega) (by have:=(h0 q hq).2;omega)
 refine closeF_least hv hd hcl a1 a2 fun p hp=>?_
 rw[stC_cAt hp]
 split
 ·rename_i e;subst e;exact hk
 ·exact(h0 p hp).1
theorem peer_ne {ps:List Pr}(hv:validF ps=true){p:Nat}(hp:p<ps.length){i:Nat}(hi:i<ps[p].evs.length)(hk:ps[p].evs[i].kind=3):ps[p].evs[i].peer.toNat ≠ p:=by
 have h:=(evF_parts hp hi).1 (evF_of_valid hv hp hi)
 have h:=h.1
 unfold formedI at h
 rw[if_neg (by omega),if_pos (.inr hk)] at h
 simp only[Bool.and_eq_true,Bool.not_eq_true',decide_eq_false_iff_not] at h
 have h0:=h.1.1
 unfold inI at h0
 simp only[Bool.and_eq_true,decide_eq_true_eq] at h0
 intro e
 exact h.1.2 (by omega)
section
variable {ps:List Pr} {E:Elim}
end
end Go.AL
end
