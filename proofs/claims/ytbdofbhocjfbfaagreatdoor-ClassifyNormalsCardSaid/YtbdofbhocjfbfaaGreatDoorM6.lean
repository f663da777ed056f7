/- Texts of this claim's proof: WMsg, WCyc, WCy2, WFlt, WCut, WCut2, WVar, WKn, WKn2, WStp, WStp2, WRk, WSame, WDrop, WDv, WPb, WPe. No condition. -/
import Derived.Test.YtbdofbhocjfbfaaGreatDoorM5
section
namespace Go.AL
open Go Go.RowKit
set_option maxRecDepth 4000
def findIn (l:List (Eid × Ev)) (kind m:Int):Eid:=match l.find? (fun x=>decide (x.2.kind=kind) && decide (x.2.msg=m)) with|some x=>x.1|none=>(0,0)
def sendsB (ps:List Pr) (p m to:Int):Bool:=match ps[p.toNat]? with|some x=>x.evs.any fun e=>decide (e.kind=2) && decide (e.msg=m) && decide (e.peer=to)|none=>false
def pairF (ps:List Pr) (k:Nat):Int :=
 match (evIds ps)[k]? with
 | some (id,e) =>
  if e.kind=2 then if (findIn ((evIds ps).take k) 2 e.msg).2 > 0 then 8 else 0
  else if e.kind=3 then if (findIn ((evIds ps).take k) 3 e.msg).2 > 0 then 8 else if !sendsB ps e.peer e.msg id.1 then 7 else 0
  else 0
 | none=>0
def msgF (ps:List Pr):Option (Eid × Int) :=
 match (List.range (evIds ps).length).find? (fun k=>pairF ps k != 0) with
 | some k=>some ((((evIds ps)[k]?).map (·.1)).getD (0,0),pairF ps k)
 | none=>none
def Formed (ps:List Pr):Prop:=∀(p:Nat) (hp:p<ps.length),∀e ∈ ps[p].evs,formedI ps.length p e=true
def cellOf (l:List (Eid × Ev)) (j:Nat):AV :=
 ai (if j % 4=0 then (findIn l 2 (j / 4:Nat)).1 else if j % 4=1 then (findIn l 2 (j / 4:Nat)).2 else if j % 4=2 then (findIn l 3 (j / 4:Nat)).1 else (findIn l 3 (j / 4:Nat)).2)
def letCells (l:List (Eid × Ev)):List AV:=(List.range 800).map (cellOf l)
theorem letCells_nil:zrow 800 (ai 0)=letCells []:=by
 refine(List.eq_replicate_iff.2 ⟨by simp [letCells],fun x hx => ?_⟩).symm
 simp only[letCells,List.mem_map] at hx
 obtain⟨j,_,rfl⟩:=hx
 simp [cellOf,findIn]
theorem letCells_get (l:List (Eid × Ev)) {j:Nat} (h:j<800):(letCells l).getD j .any=cellOf l j:=by
 simp [letCells,List.getD_eq_getElem?_getD,h]
theorem letCells_from (l:List (Eid × Ev)) (m:Int) (h1:0≤m) (h2:m≤199):(letCells l).getD (m.toNat * 4+1) .any=ai (findIn l 2 m).2:=by
 rw[letCells_get l (by omega)];unfold cellOf
 rw[if_neg (by omega),if_pos (by omega),show ((m.toNat * 4+1) / 4:Nat)=m.toNat by omega,Int.toNat_of_nonneg h1]
theorem letCells_to (l:List (Eid × Ev)) (m:Int) (h1:0≤m) (h2:m≤199):(letCells l).getD (m.toNat * 4+2+1) .any=ai (findIn l 3 m).2:=by
 rw[letCells_get l (by omega)];unfold cellOf
 rw[if_neg (by omega),if_neg (by omega),if_neg (by omega),show ((m.toNat * 4+2+1) / 4:Nat)=m.toNat by omega,Int.toNat_of_nonneg h1]
theorem letCells_length (l:List (Eid × Ev)):(letCells l).length=800:=by simp [letCells]
theorem letCells_one (l:List (Eid × Ev)):(letCells l).all one=true:=by
 simp only[letCells,List.all_map,List.all_eq_true]
 intro x _;simp [cellOf,one,Value.oneCell']
theorem letCells_pair (l:List (Eid × Ev)) (m c:Nat) (hm:m<200) (hc:c=0∨c=2):((letCells l).drop (m * 4+c)).take 2=if c=0 then [ai (findIn l 2 m).1,ai (findIn l 2 m).2] else [ai (findIn l 3 m).1,ai (findIn l 3 m).2]:=by
 have h1:(letCells l).drop (m * 4+c)=cellOf l (m * 4+c) :: cellOf l (m * 4+c+1) :: (letCells l).drop (m * 4+c+2):=by
  rw[List.drop_eq_getElem_cons (by rw[letCells_length];omega),List.drop_eq_getElem_cons (by rw[letCells_length];omega)]
  simp [letCells]
 rw[h1]
 rcases hc with rfl|rfl
 ·simp [cellOf,show (m * 4+1) % 4=1 by omega,show (m * 4+1) / 4=m by omega]
 ·simp [cellOf,show (m * 4+2) % 4=2 by omega,show (m * 4+2) / 4=m by omega,show (m * 4+3) % 4=3 by omega,show (m * 4+3) / 4=m by omega]
theorem findIn_append (l:List (Eid × Ev)) (id:Eid) (e:Ev) (kind m:Int) (h:(findIn l kind m).2≤0) (hl:∀x ∈ l,0<x.1.2) :
  findIn (l ++ [(id,e)]) kind m=if e.kind=kind∧e.msg=m then id else findIn l kind m:=by
 unfold findIn at *
 rw[List.find?_append]
 cases hf:l.find? (fun x=>decide (x.2.kind=kind) && decide (x.2.msg=m)) with
 | some x=>rw[hf] at h;have:=hl x (List.mem_of_find?_eq_some hf);simp at h;omega
 | none =>
  by_cases hc:e.kind=kind∧e.msg=m
  ·simp [hc]
  ·rw[if_neg hc]
   have:(List.find? (fun x:Eid × Ev=>decide (x.2.kind=kind) && decide (x.2.msg=m)) [(id,e)])=none:=by
    rw[List.find?_eq_none];intro x hx;simp at hx;subst hx;simpa using hc
   rw[this];rfl
theorem findIn_append_ne (l:List (Eid × Ev)) (id:Eid) (e:Ev) (kind m:Int) (hne:¬(e.kind=kind∧e.msg=m)):findIn (l ++ [(id,e)]) kind m=findIn l kind m:=by
 unfold findIn
 rw[List.find?_append]
 have:(List.find? (fun x:Eid × Ev=>decide (x.2.kind=kind) && decide (x.2.msg=m)) [(id,e)])=none:=by
  rw[List.find?_eq_none];intro x hx;simp at hx;subst hx;simpa using hne
 rw[this];simp
theorem letCells_set (l:List (Eid × Ev)) (id:Eid) (e:Ev) (m c:Nat) (hm:m<200) (he:e.msg=m) (hc:c=0∧e.kind=2∨c=2∧e.kind=3) (h:(findIn l e.kind m).2≤0) (hl:∀x ∈ l,0<x.1.2) :
  splice (letCells l) (m * 4+c) [ai id.1,ai id.2]=letCells (l ++ [(id,e)]):=by
 apply List.ext_getElem?
 intro j
 rw[splice_get _ _ _ (by rw[letCells_length];simp;omega)]
 by_cases hj:j<800
 ·have g:∀l',(letCells l')[j]?=some (cellOf l' j):=fun l'=>by simp [letCells,hj]
  rw[g,g]
  by_cases hin:m * 4+c≤j∧j<m * 4+c+2
  ·rw[if_pos (by simpa using hin)]
   have hd:j / 4=m:=by omega
   rcases hc with ⟨rfl,hk⟩|⟨rfl,hk⟩
   ·rw[hk] at h
    have hf:=findIn_append l id e 2 m h hl
    rw[if_pos ⟨hk,he⟩] at hf
    rcases (show j=m * 4∨j=m * 4+1 by omega) with rfl|rfl
    ·simp [cellOf,hf]
    ·simp [cellOf,show (m * 4+1) % 4=1 by omega,show (m * 4+1) / 4=m by omega,hf]
   ·rw[hk] at h
    have hf:=findIn_append l id e 3 m h hl
    rw[if_pos ⟨hk,he⟩] at hf
    rcases (show j=m * 4+2∨j=m * 4+3 by omega) with rfl|rfl
    ·simp [cellOf,show (m * 4+2) % 4=2 by omega,show (m * 4+2) / 4=m by omega,hf]
    ·simp [cellOf,show (m * 4+3) % 4=3 by omega,show (m * 4+3) / 4=m by omega,hf,show m * 4+3 - (m * 4+2)=1 by omega]
  ·rw[if_neg (by simpa using hin)]
   congr 1
   have e2:j % 4<2→findIn (l ++ [(id,e)]) 2 (j / 4:Nat)=findIn l 2 (j / 4:Nat):=fun hj4=>findIn_append_ne _ _ _ _ _ (by rintro⟨h1,h2⟩;rw[he] at h2;rcases hc with ⟨rfl,hk⟩|⟨rfl,hk⟩ <;> omega)
   have e3:¬j % 4<2→findIn (l ++ [(id,e)]) 3 (j / 4:Nat)=findIn l 3 (j / 4:Nat):=fun hj4=>findIn_append_ne _ _ _ _ _ (by rintro⟨h1,h2⟩;rw[he] at h2;rcases hc with ⟨rfl,hk⟩|⟨rfl,hk⟩ <;> omega)
   unfold cellOf
   by_cases h4:j % 4<2
   ·rw[e2 h4]
    rcases (show j % 4=0∨j % 4=1 by omega) with h|h <;> simp [h]
   ·rw[e3 h4]
    rcases (show j % 4=2∨j % 4=3 by omega) with h|h <;> simp [h]
 ·have g:∀l',(letCells l')[j]?=none:=fun l'=>by simp [letCells];omega
  rw[g,g,if_neg (by simp;omega)]
theorem letCells_setA (l:List (Eid × Ev)) (a b:Int) (e:Ev) (h1:0≤e.msg) (h2:e.msg≤199) (hk:e.kind=2) (h:(findIn l 2 e.msg).2≤0) (hl:∀x ∈ l,0<x.1.2) :
  (letCells l).take (e.msg.toNat * 4) ++ [ai a,ai b] ++ (letCells l).drop (e.msg.toNat * 4+2)=letCells (l ++ [((a,b),e)]):=by
 have:=letCells_set l (a,b) e e.msg.toNat 0 (by omega) (by omega) (.inl ⟨rfl,hk⟩) (by rw[hk,Int.toNat_of_nonneg h1];exact h) hl
 rw[← this];rfl
theorem letCells_setB (l:List (Eid × Ev)) (a b:Int) (e:Ev) (h1:0≤e.msg) (h2:e.msg≤199) (hk:e.kind=3) (h:(findIn l 3 e.msg).2≤0) (hl:∀x ∈ l,0<x.1.2) :
  (letCells l).take (e.msg.toNat * 4+2) ++ [ai a,ai b] ++ (letCells l).drop (e.msg.toNat * 4+2+2)=letCells (l ++ [((a,b),e)]):=by
 have:=letCells_set l (a,b) e e.msg.toNat 2 (by omega) (by omega) (.inr ⟨rfl,hk⟩) (by rw[hk,Int.toNat_of_nonneg h1];exact h) hl
 rw[← this];rfl
theorem letCells_same (l:List (Eid × Ev)) (id:Eid) (e:Ev) (h2:e.kind ≠ 2) (h3:e.kind ≠ 3):letCells (l ++ [(id,e)])=letCells l:=by
 unfold letCells
 congr 1;funext j
 unfold cellOf
 rw[findIn_append_ne _ _ _ _ _ (by rintro⟨h,_⟩;exact h2 h),findIn_append_ne _ _ _ _ _ (by rintro⟨h,_⟩;exact h3 h)]
theorem evIds_pos (ps:List Pr):∀x ∈ evIds ps,0<x.1.2:=fun x hx=>by
 obtain⟨k,hk⟩:=List.getElem?_of_mem hx
 obtain⟨p,hp,i,hi,_,rfl⟩:=evIds_inv hk
 show (0:Int)<(i:Int)+1
 omega
theorem msgF_hit {ps:List Pr} {k:Nat} {x:Eid × Ev} (hx:(evIds ps)[k]?=some x) (h0:∀j,j<k→pairF ps j=0) (h:pairF ps k ≠ 0):msgF ps=some (x.1,pairF ps k):=by
 have:(List.range (evIds ps).length).find? (fun k=>pairF ps k != 0)=some k:=by
  rw[List.find?_range_eq_some]
  exact⟨by simpa using h,by simpa using (List.getElem?_eq_some_iff.1 hx).1,fun j hj=>by simpa using h0 j hj⟩
 unfold msgF;rw[this];simp only[hx];rfl
theorem msgF_none {ps:List Pr} (h:∀k,k<(evIds ps).length→pairF ps k=0):msgF ps=none:=by
 have:(List.range (evIds ps).length).find? (fun k=>pairF ps k != 0)=none:=by
  rw[List.find?_eq_none];intro i hi;simpa using h i (List.mem_range.1 hi)
 unfold msgF;rw[this]
def aLet (ps:List Pr):AV:=.rp 800 [.agg (letCells (evIds ps))] 0 0
def aMsg (ps:List Pr):AV:=match msgF ps with
 | some (id,e) => .tup [.v (.pointer none),aEid id,ai e]
 | none => .tup [aLet ps,aEid (0,0),ai 0]
attribute [irreducible] letCells
theorem formed_msg {n:Nat} {p:Int} {e:Ev} (h:formedI n p e=true) (hk:e.kind=2∨e.kind=3):0≤e.msg∧e.msg≤199∧0≤e.peer∧e.peer<n:=by
 unfold formedI at h
 rw[if_neg (by omega),if_pos hk] at h
 simp only[inI,Bool.and_eq_true,decide_eq_true_eq] at h
 omega
theorem trace_messageFault (ps:List Pr) (hs:Sm ps) (hf:Formed ps):PC Proofs.Tryz.prog 178 [aTr ps] (aMsg ps):=by
 refine PC.enter 64 [.cell 2 199,.cell 3 102,.cell 4 28] [1,5,6,7] Proofs.Tryz.func178 rfl rfl rfl rfl rfl (by simp) (AWp.of ?_);simp only[go_sem]
 intro b2
 intro b3 h3
 intro b4 h4 h4'
 have z:zrow 800 (ai 0)=letCells []:=letCells_nil
 refine Sd ?_
 refine AWp.of ?_;simp only[go_sem,z,letCells_length,letCells_one]
 intro b5 _ _ _ b6 _ _ _ _
 have n25:¬b2=b5:=by omega
 have n24:¬b2=b4:=by omega
 have n23:¬b2=b3:=by omega
 have n35:¬b3=b5:=by omega
 have n34:¬b3=b4:=by omega
 have n45:¬b4=b5:=by omega
 refine Sd ?_
 refine AWp.of ?_;simp only[go_sem]
 refine Sd ?_
 refine(trace_events ps).val.use ?_;simp only[go_sem]
 refine AWp.block (AWp.rangeFunc rfl [1,2,3,4,5] (evArgs ps) (fun k L=>L=[(b5,.row 226 800 [.agg (letCells ((evIds ps).take k))] 1),(b4,.row 28 1 [ai 0] 1),(b3,.row 102 2 [aEid (0,0)] 1),(b2,.row 199 1 [.v (.pointer none)] 1)]∧∀j,j<k→pairF ps j=0)
  (fun e L=>e = .ret∧∃id n,msgF ps=some (id,n)∧L=[(b4,.row 28 1 [ai n] 1),(b3,.row 102 2 [aEid id] 1),(b2,.row 199 1 [.v (.pointer none)] 1)])
  rfl (trace_events1 ps hs) (fun x hx=>by obtain⟨k,hk⟩:=List.getElem?_of_mem hx;obtain⟨_,_,_,_,_,_,rfl⟩:=evArgs_inv hk;rfl) ⟨by simp [aEid],by omega⟩ ?_ ?_ ?_)
 ·rintro k x L' l hx ⟨rfl,hI⟩
  obtain⟨p,hp,i,hi,hk,hev,rfl⟩:=evArgs_inv hx
  have hfe:=hf p hp _ (List.getElem_mem hi)
  have hm:=List.getElem_mem hp
  have htk:(evIds ps).take (k+1)=(evIds ps).take k ++ [(((p:Int),(i:Int)+1),ps[p].evs[i])]:=by
   rw[List.take_succ_eq_append_getElem (List.getElem?_eq_some_iff.1 hev).1];congr 2;exact(List.getElem?_eq_some_iff.1 hev).2
  have hl:∀x ∈ (evIds ps).take k,0<x.1.2:=fun x hx=>evIds_pos ps x (List.mem_of_mem_take hx)
  generalize ps[p].evs[i]=e at *
  generalize ht:(evIds ps).take k=tk at *
  have hpf:pairF ps k=if e.kind=2 then if (findIn tk 2 e.msg).2 > 0 then 8 else 0 else if e.kind=3 then if (findIn tk 3 e.msg).2 > 0 then 8 else if !sendsB ps e.peer e.msg p then 7 else 0 else 0:=by
   simp only[pairF,hev,ht]
  simp only[go_sem]
  refine Sd ?_
  refine AWp.of ?_;simp only[go_sem]
  refine Sd ?_
  intros
  refine AWp.of ?_;simp only[go_sem]
  refine Sd ?_
  intros
  refine AWp.of ?_;simp only[go_sem]
  refine Wk ?_
  refine⟨fun h1 => ?_,fun h1 => ?_⟩
  ·obtain⟨hm1,hm2,_,_⟩:=formed_msg hfe (.inl h1)
   have c1:=letCells_from tk e.msg hm1 hm2
   simp only[go_sem,c1]
   rw[if_pos h1] at hpf
   refine Wk ?_
   refine⟨fun h2 => ?_,fun h2 => ?_⟩
   ·refine AWp.drawnT mixed (.step 0 (.step 1 (.step 2 (.step 3 .done .done) .done) .done) (.step 1 (.step 0 (.step 2 (.step 3 .done .done) .done) .done) .done)) (by kernel_rfl) ?_;simp only[go_sem,n25,n24,n23,n35,n34,n45]
    refine Wk ?_
    rw[if_pos h2] at hpf
    exact⟨_,List.sublist_cons_self _ _,_,8,by rw[msgF_hit hev hI (by rw[hpf];decide),hpf],rfl⟩
   ·refine AWp.drawn mixed 6 (by kernel_rfl) ?_;simp only[go_sem]
    refine Sd ?_
    rw[if_neg h2] at hpf
    refine⟨_,List.Sublist.refl _,?_,?_⟩
    ·rw[letCells_setA tk p (i+1) e hm1 hm2 h1 (by omega) hl,htk]
    ·intro j hj
     by_cases hjk:j=k
     ·rw[hjk];exact hpf
     ·exact hI j (by omega)
  ·rw[if_neg h1] at hpf
   refine Wk ?_
   refine⟨fun h2 => ?_,fun h2 => ?_⟩
   ·obtain⟨hm1,hm2,hm3,hm4⟩:=formed_msg hfe (.inr h2)
    have c1:=letCells_to tk e.msg hm1 hm2
    rw[if_pos h2] at hpf
    simp only[go_sem,c1]
    refine Wk ?_
    refine⟨fun h3 => ?_,fun h3 => ?_⟩
    ·refine AWp.drawnT mixed (.step 0 (.step 1 (.step 2 (.step 3 .done .done) .done) .done) (.step 1 (.step 0 (.step 2 (.step 3 .done .done) .done) .done) .done)) (by kernel_rfl) ?_;simp only[go_sem,n25,n24,n23,n35,n34,n45]
     refine Wk ?_
     rw[if_pos h3] at hpf
     exact⟨_,List.sublist_cons_self _ _,_,8,by rw[msgF_hit hev hI (by rw[hpf];decide),hpf],rfl⟩
    ·rw[if_neg h3] at hpf
     refine Wk ?_
     have hpn:e.peer.toNat<ps.length:=by omega
     have hpe:((e.peer.toNat:Nat):Int)=e.peer:=Int.toNat_of_nonneg hm3
     have hsd:=trace_sends ps hs e.peer.toNat hpn e.msg p
     rw[hpe] at hsd
     have hsb:sendsB ps e.peer e.msg p=(ps[e.peer.toNat].evs.any fun x=>decide (x.kind=2) && decide (x.msg=e.msg) && decide (x.peer=p)):=by
      simp only[sendsB,List.getElem?_eq_getElem hpn]
     rw[← hsb] at hsd
     refine Sd ?_
     refine(hsd).val.use ?_;simp only[go_sem]
     refine Wk ?_
     refine⟨fun h4 => ?_,fun h4 => ?_⟩
     ·refine AWp.drawnT mixed (.step 0 (.step 1 (.step 2 (.step 3 .done .done) .done) .done) (.step 1 (.step 0 (.step 2 (.step 3 .done .done) .done) .done) .done)) (by kernel_rfl) ?_;simp only[go_sem,n25,n24,n23,n35,n34,n45]
      refine Wk ?_
      rw[if_pos (by simp [h4])] at hpf
      exact⟨_,List.sublist_cons_self _ _,_,7,by rw[msgF_hit hev hI (by rw[hpf];decide),hpf],rfl⟩
     ·refine AWp.drawn mixed 6 (by kernel_rfl) ?_;simp only[go_sem]
      refine Sd ?_
      rw[if_neg (by simp [h4])] at hpf
      refine⟨_,List.Sublist.refl _,?_,?_⟩
      ·rw[letCells_setB tk p (i+1) e hm1 hm2 h2 (by omega) hl,htk]
      ·intro j hj
       by_cases hjk:j=k
       ·rw[hjk];exact hpf
       ·exact hI j (by omega)
   ·rw[if_neg h2] at hpf
    refine⟨_,List.Sublist.refl _,?_,?_⟩
    ·rw[htk,letCells_same _ _ _ h1 h2]
    ·intro j hj
     by_cases hjk:j=k
     ·rw[hjk];exact hpf
     ·exact hI j (by omega)
 ·rintro L' ⟨rfl,hI⟩
  simp only[go_sem]
  refine W6 n25 n24 n23 n35 n34 n45 ?_
  have hlen:(evArgs ps).length=(evIds ps).length:=by unfold evArgs;rw[List.length_map]
  have hm:aMsg ps = .tup [aLet ps,aEid (0,0),ai 0]:=by
   unfold aMsg;rw[msgF_none (fun k hk=>hI k (by omega))]
  rw[hm]
  refine ret_view [true] ?_
  simp only[go_sem,n25,n24,n23,n35,n34,n45]
  refine Vw.mkTup (Vws.cons ?_ (Vws.refl _))
  unfold aLet
  rw[hlen,List.take_length]
  exact Vw.ofLp (if_pos rfl)
 ·rintro e L' ⟨he,id,n,hm,rfl⟩
  subst he
  show retK _ _ _ _ _
  have hm:aMsg ps = .tup [.v (.pointer none),aEid id,ai n]:=by unfold aMsg;rw[hm]
  rw[hm]
  refine ret_eq ?_
  simp only[go_sem,n25,n24,n23,n35,n34,n45]
attribute [go_sem] aLet
def afterL (ps:List Pr) (x:Eid):List Eid :=
 match ps[x.1.toNat]? with
 | some q=>match q.evs[(x.2 - 1).toNat]? with
  | some e=>(if x.2<q.evs.length then [(x.1,x.2+1)] else []) ++ (if e.kind=2∧0<(findIn (evIds ps) 3 e.msg).2 then [findIn (evIds ps) 3 e.msg] else [])
  | none=>[]
 | none=>[]
theorem formed_num {n:Nat} {p:Int} {e:Ev} (h:formedI n p e=true):0≤e.msg∧e.msg≤199:=by
 unfold formedI at h
 split at h
 ·simp only[Bool.and_eq_true,decide_eq_true_eq] at h;omega
 ·split at h
  ·simp only[inI,Bool.and_eq_true,decide_eq_true_eq] at h;omega
  ·cases h
theorem letCells_toP (l:List (Eid × Ev)) (m:Int) (h1:0≤m) (h2:m≤199):((letCells l).drop (m.toNat * 4+2)).take 2=[ai (findIn l 3 m).1,ai (findIn l 3 m).2]:=by
 have:=letCells_pair l m.toNat 2 (by omega) (.inr rfl)
 rw[if_neg (by decide),Int.toNat_of_nonneg h1] at this
 exact this
theorem trace_after (ps:List Pr) (hs:Sm ps) (hf:Formed ps) (p:Nat) (hp:p<ps.length) (i:Nat) (hi:i<ps[p].evs.length) :
  PC Proofs.Tryz.prog 210 [aTr ps,aLet ps,aEid (p,(i:Int)+1)] (aEids (afterL ps (p,(i:Int)+1))):=by
 have hfe:=hf p hp _ (List.getElem_mem hi)
 have hel:=hs.evs _ (List.getElem_mem hp)
 have ha:afterL ps (p,(i:Int)+1)=(if i+1<ps[p].evs.length then [((p:Int),(i:Int)+1+1)] else []) ++ (if ps[p].evs[i].kind=2∧0<(findIn (evIds ps) 3 ps[p].evs[i].msg).2 then [findIn (evIds ps) 3 ps[p].evs[i].msg] else []):=by
  simp only[afterL,Int.toNat_natCast,List.getElem?_eq_getElem hp,show ((i:Int)+1 - 1).toNat=i by omega,List.getElem?_eq_getElem hi]
  congr 1
  by_cases h:i+1<ps[p].evs.length
  ·rw[if_pos h,if_pos (by omega)]
  ·rw[if_neg h,if_neg (by omega)]
 generalize hx:ps[p]=q at *
 generalize he:q.evs[i]=e at *
 have e3:((i:Int)+1 - 1).toNat=i:=by omega
 unfold aLet
 refine PC.enter 62 [.tmp 6] [3,5,9,29,59] Proofs.Tryz.func210 rfl rfl rfl rfl rfl (by simp) (AWp.of ?_);simp only[go_sem]
 refine Sd ?_
 refine AWp.of ?_;simp only[go_sem]
 refine Sd ?_
 refine AWp.of ?_;simp only[go_sem,getD_map hp,hx]
 refine Sd ?_
 refine AWp.cut [1,5,7,8] (fun vs L=>∃v,vs=[.rp 800 [.agg (letCells (evIds ps))] 0 0,.rp 2 [aEid (p,(i:Int)+1)] 0 0,v,aEvs q.evs]∧AppSt 102 2 ((if i+1<q.evs.length then [((p:Int),(i:Int)+1+1)] else []).map aEid) v L) ?_ ?_
 ·refine Sd ?_
  refine AWp.of ?_;simp only[go_sem]
  refine Sd ?_
  refine AWp.of ?_;simp only[go_sem]
  refine⟨fun h => ?_,fun h => ?_⟩
  ·refine Sd ?_
   intro b cap _
   refine⟨_,List.Sublist.refl _,_,rfl,?_⟩
   rw[if_pos (by omega)]
   exact .row b _ cap
  ·refine⟨_,List.Sublist.refl _,_,rfl,?_⟩
   rw[if_neg (by omega)]
   exact .nil
 ·rintro vs L' - ⟨v,rfl,ha1⟩
  generalize hy1:(if i+1<q.evs.length then [((p:Int),(i:Int)+1+1)] else [])=y1 at *
  simp only[go_sem]
  obtain⟨hm1,hm2⟩:=formed_num hfe
  have c1:=letCells_to (evIds ps) e.msg hm1 hm2
  have c2:=letCells_toP (evIds ps) e.msg hm1 hm2
  refine Sd ?_
  refine AWp.of ?_;simp only[go_sem,e3,getD_map hi,he]
  refine Sd ?_
  intros
  refine AWp.seq ?_
  refine AWp.drawn mixed 10 (by kernel_rfl) ?_;simp only[go_sem,c1]
  refine Wk ?_
  refine⟨fun h1 h2 => ?_,fun h1 => ?_⟩
  ·rw[if_pos ⟨h1,h2⟩] at ha
   rcases ha1.inv with ⟨e1,rfl,rfl⟩|⟨b,cap,rfl,rfl⟩
   ·have e2:y1=[]:=by simpa using e1
    refine AWp.drawn mixed 9 (by kernel_rfl) ?_;simp only[go_sem,c1,c2]
    refine Sd ?_
    intro b' cap' _
    refine Wk ?_
    rw[ha,e2]
    refine ret_view [true] ?_;simp only[go_sem]
    exact Vw.ofLs (if_pos rfl) rfl
   ·have e2:y1.length≤1:=by rw[← hy1];split <;> simp
    refine AWp.drawn mixed 9 (by kernel_rfl) ?_;simp only[go_sem,c1,c2]
    refine Sd ?_
    intro b' cap' _
    refine Wk ?_
    rw[ha]
    refine ret_view [true] ?_;simp only[go_sem]
    rw[List.map_append]
    exact Vw.ofLs (if_pos rfl) (by simp)
  ·rw[if_neg (by rintro⟨h3,h4⟩;exact absurd h4 (h1 h3)),List.append_nil] at ha
   rw[ha]
   rcases ha1.inv with ⟨e1,rfl,rfl⟩|⟨b,cap,rfl,rfl⟩
   ·refine Wk ?_
    refine ret_view [] ?_;simp only[go_sem]
    rw[e1]
    exact .nil _
   ·refine Wk ?_
    refine ret_view [true] ?_;simp only[go_sem]
    exact Vw.ofLs (if_pos rfl) (by simp)
def VEv (ps:List Pr) (x:Eid):Prop:=∃(p:Nat) (hp:p<ps.length) (i:Nat) (_:i<ps[p].evs.length),x=((p:Int),(i:Int)+1)
def Nx (ps:List Pr) (x y:Eid):Prop:=y ∈ afterL ps x
def Reach (ps:List Pr):Eid→Eid→Prop:=Relation.TransGen (Nx ps)
theorem VEv.mem {ps:List Pr} {x:Eid} (h:VEv ps x):x ∈ (evIds ps).map (·.1):=by
 obtain⟨p,hp,i,hi,rfl⟩:=h
 exact List.mem_map.2 ⟨_,List.mem_of_getElem? (evIds_get hp hi),rfl⟩
theorem findIn_mem {l:List (Eid × Ev)} {kind m:Int} (h:0<(findIn l kind m).2):∃e,(findIn l kind m,e) ∈ l∧e.kind=kind∧e.msg=m:=by
 unfold findIn at *
 cases hf:l.find? (fun x=>decide (x.2.kind=kind) && decide (x.2.msg=m)) with
 | none=>rw[hf] at h;simp at h
 | some x =>
  have h1:=List.mem_of_find?_eq_some hf
  have h2:=List.find?_some hf
  simp only[Bool.and_eq_true,decide_eq_true_eq] at h2
  exact⟨x.2,h1,h2.1,h2.2⟩
theorem VEv.of_mem {ps:List Pr} {x:Eid × Ev} (h:x ∈ evIds ps):VEv ps x.1:=by
 obtain⟨k,hk⟩:=List.getElem?_of_mem h
 obtain⟨p,hp,i,hi,_,rfl⟩:=evIds_inv hk
 exact⟨p,hp,i,hi,rfl⟩
theorem Nx.valid {ps:List Pr} {x y:Eid} (h:Nx ps x y) (hx:VEv ps x):VEv ps y:=by
 obtain⟨p,hp,i,hi,rfl⟩:=hx
 unfold Nx afterL at h
 simp only[Int.toNat_natCast,List.getElem?_eq_getElem hp,show ((i:Int)+1 - 1).toNat=i by omega,List.getElem?_eq_getElem hi,List.mem_append] at h
 rcases h with h|h
 ·split at h
  ·simp only[List.mem_singleton] at h
   exact⟨p,hp,i+1,by omega,by rw[h];simp⟩
  ·cases h
 ·split at h
  ·rename_i hc
   simp only[List.mem_singleton] at h
   obtain⟨e,hm,_⟩:=findIn_mem hc.2
   rw[h];exact VEv.of_mem hm
  ·cases h
theorem Reach.valid {ps:List Pr} {x y:Eid} (h:Reach ps x y) (hx:VEv ps x):VEv ps y:=by
 induction h with
 | single h=>exact h.valid hx
 | tail _ h ih=>exact h.valid ih
open Classical in
noncomputable def cycF (ps:List Pr):Option Eid:=((evIds ps).find? fun x=>decide (Reach ps x.1 x.1)).map (·.1)
structure Dfs (ps:List Pr) (id:Eid) (x:Option Eid) (j:Nat) (rest seen:List Eid):Prop where
 reach:∀y ∈ seen,Reach ps id y
 sub:∀y ∈ rest,y=id∨y ∈ seen
 nid:id ∉ seen
 nodup:seen.Nodup
 closed:∀z,(z=id∨z ∈ seen)→z ∉ rest→x ≠ some z→∀y,Nx ps z y→y ∈ seen
 part:∀z,x=some z→(z=id∨z ∈ seen)∧∀i y,i<j→(afterL ps z)[i]?=some y→y ∈ seen
 size:rest.length+x.isSome.toNat≤seen.length+1
theorem Dfs.start (ps:List Pr) (id:Eid):Dfs ps id none 0 [id] [] :=
 ⟨by simp,by simp,by simp,.nil,fun z hz hn=>by simp at hz;subst hz;simp at hn,fun z h=>(by cases h),by simp⟩
theorem Dfs.pop {ps:List Pr} {id x:Eid} {rest seen:List Eid} (h:Dfs ps id none 0 (rest ++ [x]) seen):Dfs ps id (some x) 0 rest seen :=
 ⟨h.reach,fun y hy=>h.sub y (List.mem_append_left _ hy),h.nid,h.nodup,fun z hz hn hx=>h.closed z hz (by
   simp only[List.mem_append,List.mem_singleton,not_or]
   exact⟨hn,fun e=>hx (by rw[e])⟩) (by simp),fun z hz=>⟨by cases hz;exact h.sub x (by simp),fun i y hi=>by omega⟩,by have:=h.size;simp at this ⊢;omega⟩
theorem Dfs.skip {ps:List Pr} {id x y:Eid} {j:Nat} {rest seen:List Eid} (h:Dfs ps id (some x) j rest seen) (hy:(afterL ps x)[j]?=some y) (hs:y ∈ seen):Dfs ps id (some x) (j+1) rest seen :=
 ⟨h.reach,h.sub,h.nid,h.nodup,h.closed,fun z hz=>⟨(h.part z hz).1,fun i w hi hw=>by
  by_cases e:i=j
  ·subst e;cases hz;rw[hy] at hw;cases hw;exact hs
  ·exact(h.part z hz).2 i w (by omega) hw⟩,h.size⟩
theorem Dfs.push {ps:List Pr} {id x y:Eid} {j:Nat} {rest seen:List Eid} (h:Dfs ps id (some x) j rest seen) (hy:(afterL ps x)[j]?=some y) (hs:y ∉ seen) (hid:y ≠ id):Dfs ps id (some x) (j+1) (rest ++ [y]) (seen ++ [y]):=by
 have hnx:Nx ps x y:=List.mem_of_getElem? hy
 refine⟨fun z hz => ?_,fun z hz => ?_,?_,?_,fun z hz hn hx w hw => ?_,fun z hz => ?_,by have:=h.size;simp at this ⊢;omega⟩
 ·rcases List.mem_append.1 hz with hz|hz
  ·exact h.reach z hz
  ·simp only[List.mem_singleton] at hz;subst hz
   rcases (h.part x rfl).1 with e|hx
   ·subst e;exact .single hnx
   ·exact .tail (h.reach x hx) hnx
 ·rcases List.mem_append.1 hz with hz|hz
  ·rcases h.sub z hz with e|hz
   ·exact .inl e
   ·exact .inr (List.mem_append_left _ hz)
  ·exact .inr (List.mem_append_right _ hz)
 ·simp only[List.mem_append,List.mem_singleton,not_or];exact⟨h.nid,fun e=>hid e.symm⟩
 ·rw[List.nodup_append]
  exact⟨h.nodup,by simp,fun a ha b hb e=>by simp at hb;subst hb;subst e;exact hs ha⟩
 ·simp only[List.mem_append,List.mem_singleton,not_or] at hn
  refine List.mem_append_left _ (h.closed z ?_ hn.1 hx w hw)
  rcases hz with e|hz
  ·exact .inl e
  ·rcases List.mem_append.1 hz with hz|hz
   ·exact .inr hz
   ·simp only[List.mem_singleton] at hz;exact absurd hz hn.2
 ·refine⟨?_,fun i w hi hw => ?_⟩
  ·rcases (h.part z hz).1 with e|hz
   ·exact .inl e
   ·exact .inr (List.mem_append_left _ hz)
  ·by_cases e:i=j
   ·subst e;cases hz;rw[hy] at hw;cases hw;simp
   ·exact List.mem_append_left _ ((h.part z hz).2 i w (by omega) hw)
theorem Dfs.next {ps:List Pr} {id x:Eid} {rest seen:List Eid} (h:Dfs ps id (some x) (afterL ps x).length rest seen):Dfs ps id none 0 rest seen :=
 ⟨h.reach,h.sub,h.nid,h.nodup,fun z hz hn _ w hw=>by
  by_cases e:z=x
  ·subst e
   obtain⟨i,hi⟩:=List.getElem?_of_mem hw
   exact(h.part z rfl).2 i w (List.getElem?_eq_some_iff.1 hi).1 hi
  ·exact h.closed z hz hn (fun e'=>e (by cases e';rfl)) w hw,fun z hz=>(by cases hz),by have:=h.size;simp at this ⊢;omega⟩
theorem Dfs.found {ps:List Pr} {id x:Eid} {j:Nat} {rest seen:List Eid} (h:Dfs ps id (some x) j rest seen) (hy:(afterL ps x)[j]?=some id):Reach ps id id:=by
 have hnx:Nx ps x id:=List.mem_of_getElem? hy
 rcases (h.part x rfl).1 with e|hx
 ·subst e;exact .single hnx
 ·exact .tail (h.reach x hx) hnx
theorem Dfs.none {ps:List Pr} {id:Eid} {seen:List Eid} (h:Dfs ps id none 0 [] seen):¬Reach ps id id:=by
 have key:∀y,Reach ps id y→y ∈ seen:=fun y hy=>by
  induction hy with
  | single hn=>exact h.closed id (.inl rfl) (by simp) (by simp) _ hn
  | tail _ hn ih=>exact h.closed _ (.inr ih) (by simp) (by simp) _ hn
 exact fun hr=>h.nid (key id hr)
theorem Dfs.small {ps:List Pr} {id:Eid} {x:Option Eid} {j:Nat} {rest seen:List Eid} (h:Dfs ps id x j rest seen) (hv:VEv ps id):seen.length≤(evIds ps).length:=by
 have:=List.Nodup.length_le_of_subset h.nodup (l₂:=(evIds ps).map (·.1)) (fun y hy=>((h.reach y hy).valid hv).mem)
 simpa using this
theorem evIds_small {ps:List Pr} (hs:Sm ps):(evIds ps).length≤1000000000000:=by
 rw[evIds_length]
 have key:∀n,n≤ps.length→off ps n≤n * 1000000:=by
  intro n
  induction n with
  | zero=>intro _;simp [off]
  | succ n ih =>
   intro hn
   rw[off_succ (by omega)]
   have:=ih (by omega)
   have:=hs.evs _ (List.getElem_mem (show n<ps.length by omega))
   omega
 have:=key _ (Nat.le_refl _)
 have:=hs.procs
 omega
def eidV (x:Eid):Value:=.agg [Value.int .i64 x.1,Value.int .i64 x.2].toArray
def aSet (s:List Eid):ABlk:=.amap (s.map eidV) (s.map fun _=>ab true)
theorem keyB_eid (x y:Eid):keyB (eidV x) (eidV y)=decide (x=y):=by
 obtain⟨a,b⟩:=x
 obtain⟨c,d⟩:=y
 simp [keyB,eidV,veqs,veq]
theorem mfind_set (y:Eid) (s:List Eid):(mfind (eidV y) (s.map eidV)).isSome=decide (y ∈ s)∧∀i,mfind (eidV y) (s.map eidV)=some i→i<s.length:=by
 induction s with
 | nil=>exact⟨by simp [mfind],fun i h=>by simp [mfind] at h⟩
 | cons x s ih =>
  simp only[List.map_cons,mfind,keyB_eid,decide_eq_true_eq]
  by_cases h:y=x
  ·rw[if_pos h];exact⟨by simp [h],fun i hi=>by cases hi;simp⟩
  ·rw[if_neg h]
   cases hf:mfind (eidV y) (s.map eidV) with
   | none=>rw[hf] at ih;exact⟨by simp [h];simpa using ih.1,fun i hi=>by cases hi⟩
   | some k=>rw[hf] at ih;exact⟨by simp [h];simpa using ih.1,fun i hi=>by cases hi;simpa using ih.2 k rfl⟩
theorem mget_set (y:Eid) (s:List Eid):mget (eidV y) (s.map eidV) (s.map fun _=>ab true) (ab false)=ab (decide (y ∈ s)):=by
 obtain⟨h1,h2⟩:=mfind_set y s
 unfold mget
 cases hf:mfind (eidV y) (s.map eidV) with
 | none=>rw[hf] at h1;rw[← h1];rfl
 | some i =>
  rw[hf] at h1
  rw[← h1]
  show (List.map (fun _=>ab true) s).getD i .any=ab true
  rw[List.getD_eq_getElem?_getD]
  simp [h2 i hf]
theorem mput_set {y:Eid} {s:List Eid} (h:y ∉ s):mput (eidV y) (ab true) (s.map eidV) (s.map fun _=>ab true)=aSet (s ++ [y]):=by
 have h1:=(mfind_set y s).1
 unfold mput
 cases hf:mfind (eidV y) (s.map eidV) with
 | none=>simp [aSet]
 | some i=>rw[hf] at h1;simp [h] at h1
theorem fits_eid (y:Eid):(KK.st [.int,.int]).fits (eidV y)=true:=by simp [KK.fits,eidV,vfitss,SK.vfits]
theorem fits_set (s:List Eid):((s.map eidV).all (KK.st [.int,.int]).fits)=true:=by
 simp only[List.all_map,List.all_eq_true];intro x _;exact fits_eid x
theorem cycF_hit {ps:List Pr} {k:Nat} {x:Eid × Ev} (hx:(evIds ps)[k]?=some x) (h0:∀(j:Nat) (y:Eid × Ev),j<k→(evIds ps)[j]?=some y→¬Reach ps y.1 y.1) (h:Reach ps x.1 x.1):cycF ps=some x.1:=by
 unfold cycF
 obtain⟨hk,he⟩:=List.getElem?_eq_some_iff.1 hx
 have:(evIds ps).find? (fun x => @decide (Reach ps x.1 x.1) (Classical.propDecidable _))=some x:=by
  rw[List.find?_eq_some_iff_getElem]
  exact⟨by simpa using h,k,hk,he,fun j hj=>by simpa using h0 j _ hj (List.getElem?_eq_getElem (by omega))⟩
 rw[this];rfl
theorem cycF_none {ps:List Pr} (h:∀(j:Nat) (y:Eid × Ev),(evIds ps)[j]?=some y→¬Reach ps y.1 y.1):cycF ps=none:=by
 unfold cycF
 have:(evIds ps).find? (fun x => @decide (Reach ps x.1 x.1) (Classical.propDecidable _))=none:=by
  rw[List.find?_eq_none]
  intro y hy
  obtain⟨j,hj⟩:=List.getElem?_of_mem hy
  simpa using h j y hj
 rw[this];rfl
noncomputable def aCyc (ps:List Pr):AV:=match cycF ps with
 | some id => .tup [aEid id,ab true]
 | none => .tup [aEid (0,0),ab false]
def muCyc (N:Nat) (vs:List AV) (L:AHeap):Nat:=match vs,L with
 | .ls _ _ _ len _ :: _,_ :: (_,.amap ks _) :: _=>2 * (N - ks.length)+len
 | _,_=>0
theorem trace_cyclic (ps:List Pr) (hs:Sm ps) (hf:Formed ps):PC Proofs.Tryz.prog 179 [aTr ps,aLet ps] (aCyc ps):=by
 refine PC.enter 58 [.cell 4 102,.cell 5 4] [2,3,6,9,11,54] Proofs.Tryz.func179 rfl rfl rfl rfl rfl (by simp) (AWp.of ?_);simp only[go_sem]
 intro b4
 intro b5 h5
 refine Sd ?_
 refine AWp.of ?_;simp only[go_sem]
 refine Sd ?_
 refine(trace_events ps).val.use ?_;simp only[go_sem]
 refine AWp.block (AWp.rangeFunc rfl [2,3,4,5] (evArgs ps) (fun k L=>L=[(b5,.row 4 1 [ab false] 1),(b4,.row 102 2 [aEid (0,0)] 1)]∧∀(j:Nat) (y:Eid × Ev),j<k→(evIds ps)[j]?=some y→¬Reach ps y.1 y.1)
  (fun e L=>e = .ret∧∃id,cycF ps=some id∧L=[(b5,.row 4 1 [ab true] 1),(b4,.row 102 2 [aEid id] 1)])
  rfl (trace_events1 ps hs) (fun x hx=>by obtain⟨k,hk⟩:=List.getElem?_of_mem hx;obtain⟨_,_,_,_,_,_,rfl⟩:=evArgs_inv hk;rfl) ⟨by simp [aEid],by omega⟩ ?_ ?_ ?_)
 ·rintro k x L' l hx ⟨rfl,hI⟩
  obtain⟨p,hp,i,hi,hk,hev,rfl⟩:=evArgs_inv hx
  have hv:VEv ps ((p:Int),(i:Int)+1):=⟨p,hp,i,hi,rfl⟩
  generalize hid:(((p:Int),(i:Int)+1):Eid)=id at *
  have hid1:(p:Int)=id.1:=by rw[← hid]
  have hid2:(i:Int)+1=id.2:=by rw[← hid]
  simp only[go_sem]
  refine Sd ?_
  refine AWp.of ?_;simp only[go_sem]
  refine Sd ?_
  intros
  refine AWp.of ?_;simp only[go_sem]
  intro bm _ _
  refine Sd ?_
  refine AWp.of ?_;simp only[go_sem]
  intro bs _ _ _
  have n45:¬b4=b5:=by omega
  have nm5:¬bm=b5:=by omega
  have nm4:¬bm=b4:=by omega
  have nm5':¬b5=bm:=by omega
  have nm4':¬b4=bm:=by omega
  refine AWp.block (AWp.loop [8] [2,3,4,5,6,7] (fun vs L=>∃rest seen junk b cap,vs=[.ls b 2 0 rest.length cap]∧L=[(b,.row 102 2 ((rest ++ junk).map aEid) cap),(bm,aSet seen),(b5,.row 4 1 [ab false] 1),(b4,.row 102 2 [aEid (0,0)] 1)] ∧
   Dfs ps id none 0 rest seen∧rest.length≤cap∧b ≠ bm∧b ≠ b5∧b ≠ b4) (muCyc (evIds ps).length) ⟨[id],[],[],bs,1,rfl,rfl,Dfs.start ps id,by simp,by omega,by omega,by omega⟩ ?_)
  rintro vs L' - ⟨rest,seen,junk,b,cap,rfl,rfl,hd,hcap,n1,n2,n3⟩
  have n1':¬bm=b:=fun e=>n1 e.symm
  have n2':¬b5=b:=fun e=>n2 e.symm
  have n3':¬b4=b:=fun e=>n3 e.symm
  simp only[go_sem]
  refine Wk ?_
  refine⟨fun h1 => ?_,fun h1 => ?_⟩
  ·have hne:rest ≠ []:=by rintro rfl;simp at h1
   obtain⟨r,x,rfl⟩:∃r x,rest=r ++ [x]:=⟨rest.dropLast,rest.getLast hne,(List.dropLast_concat_getLast hne).symm⟩
   clear hne h1
   have hlen:(r ++ [x]).length=r.length+1:=by simp
   have hL:(r ++ [x]) ++ junk=r ++ (x :: junk):=by simp
   rw[hlen] at hcap
   simp only[hlen,hL]
   have e1:((r.length+1:Nat):Int) - 1=(r.length:Int):=by omega
   have e2:(List.map aEid (r ++ (x :: junk))).getD r.length .any=aEid x:=by simp [List.getD_eq_getElem?_getD]
   have hvx:VEv ps x:=by
    rcases hd.sub x (by simp) with e|hx
    ·rw[e];exact hv
    ·exact(hd.reach x hx).valid hv
   obtain⟨px,hpx,ix,hix,hxe⟩:=hvx
   have hdp:=hd.pop
   have hsm:=hdp.small hv
   have hsz:=hdp.size
   have hN:=evIds_small hs
   simp only[Option.isSome_some,Bool.toNat_true] at hsz
   have haf:=trace_after ps hs hf px hpx ix hix
   rw[← hxe] at haf
   have hal:(afterL ps x).length≤2:=by
    unfold afterL
    split
    ·split
     ·rw[List.length_append];split <;> split <;> simp
     ·simp
    ·simp
   refine Sd ?_
   refine AWp.of ?_;simp only[go_sem,e1,e2,n1',n2',n3']
   refine Sd ?_
   intros
   refine AWp.of ?_;simp only[go_sem,e1,e2,n1',n2',n3']
   refine Sd ?_
   refine AWp.of ?_;simp only[go_sem,e1,e2]
   refine Sd ?_
   refine(haf).val.use ?_;simp only[go_sem]
   refine AWp.range' (afterL ps x).length [8] [2,3,4,5,6,7,36,37] (fun j vs L=>∃rest seen' junk b cap,vs=[.ls b 2 0 rest.length cap]∧L=[(b,.row 102 2 ((rest ++ junk).map aEid) cap),(bm,aSet seen'),(b5,.row 4 1 [ab false] 1),(b4,.row 102 2 [aEid (0,0)] 1)] ∧
    Dfs ps id (some x) j rest seen'∧rest.length≤cap∧b ≠ bm∧b ≠ b5∧b ≠ b4∧2 * ((evIds ps).length - seen'.length)+rest.length≤2 * ((evIds ps).length - seen.length)+r.length) (by omega) rfl rfl rfl ⟨r,seen,x :: junk,b,cap,rfl,rfl,hdp,by omega,n1,n2,n3,Nat.le_refl _⟩ ?_ ?_
   ·rintro j vs L' hj - ⟨rest,seen',junk,b,cap,rfl,rfl,hd,hcap,n1,n2,n3,hmu⟩
    have n1':¬bm=b:=fun e=>n1 e.symm
    have n2':¬b5=b:=fun e=>n2 e.symm
    have n3':¬b4=b:=fun e=>n3 e.symm
    have hy:(afterL ps x)[j]?=some (afterL ps x)[j]:=List.getElem?_eq_getElem hj
    have hsm':=hd.small hv
    have hsz':=hd.size
    simp only[Option.isSome_some,Bool.toNat_true] at hsz'
    have hid3:∀y:Eid,(y.1=id.1∧y.2=id.2)=(y=id):=fun y=>by
     apply propext;constructor
     ·rintro⟨h1,h2⟩;exact Prod.ext h1 h2
     ·rintro rfl;exact⟨rfl,rfl⟩
    have hgd:(List.map aEid (afterL ps x)).getD j .any=aEid (afterL ps x)[j]:=getD_map hj
    have hkv:Value.agg [Value.int .i64 (afterL ps x)[j].1,Value.int .i64 (afterL ps x)[j].2].toArray=eidV (afterL ps x)[j]:=rfl
    generalize hyy:(afterL ps x)[j]=y at *
    have hg:=mget_set y seen'
    have hfk:=fits_eid y
    have hfs:=fits_set seen'
    simp only[go_sem]
    refine Sd ?_
    refine AWp.of ?_;simp only[go_sem,hgd]
    refine Sd ?_
    intros
    refine AWp.of ?_;simp only[go_sem]
    repeat(first|((with_reducible refine AWp.ofC ?_ ?_);exact rfl;simp only[go_sem,n1',n2',n3',n45,nm5,nm4,nm5',nm4'])|((with_reducible refine an ?_ ?_);exact Au))
    refine⟨fun h1 h2 => ?_,fun h1 => ?_⟩
    ·repeat(first|((with_reducible refine AWp.ofC ?_ ?_);exact rfl;simp only[go_sem,n1',n2',n3',n45,nm5,nm4,nm5',nm4'])|((with_reducible refine an ?_ ?_);exact Au))
     have hyi:y=id:=Prod.ext h1 h2
     rw[hyi] at hy
     refine⟨_,List.Sublist.cons _ (List.Sublist.cons _ (List.Sublist.refl _)),id,cycF_hit hev hI (hd.found hy),rfl⟩
    ·have hyn:y ≠ id:=by rintro rfl;exact h1 rfl rfl
     repeat(first|((with_reducible refine AWp.ofC ?_ ?_);exact rfl;simp only[go_sem,n1',n2',n3',n45,nm5,nm4,nm5',nm4',aSet,hkv,hfk,hfs,hg])|((with_reducible refine an ?_ ?_);exact Au))
     refine⟨fun h2 => ?_,fun h2 => ?_⟩
     ·have hp:=mput_set h2
      repeat(first|((with_reducible refine AWp.ofC ?_ ?_);exact rfl;simp only[go_sem,n1',n2',n3',n45,nm5,nm4,nm5',nm4',aSet,hkv,hfk,hfs,hg,hp])|((with_reducible refine an ?_ ?_);exact Au))
      refine Sd ?_
      intro b' cap' m1 m2 m3 m4
      refine⟨_,List.Sublist.refl _,rest ++ [y],seen' ++ [y],[],b',cap',?_,?_,hd.push hy h2 hyn,?_,fun e=>m1 e.symm,fun e=>m2 e.symm,fun e=>m3 e.symm,?_⟩
      ·simp
      ·simp [aEid]
      ·simpa using m4
      ·have:=(hd.push hy h2 hyn).small hv
       simp only[List.length_append,List.length_singleton] at this ⊢
       omega
     ·exact⟨_,List.Sublist.refl _,rest,seen',junk,b,cap,rfl,rfl,hd.skip hy h2,hcap,n1,n2,n3,hmu⟩
   ·rintro vs L' - ⟨rest,seen',junk,b,cap,rfl,rfl,hd,hcap,n1,n2,n3,hmu⟩
    simp only[go_sem]
    refine⟨_,List.Sublist.refl _,⟨rest,seen',junk,b,cap,rfl,rfl,hd.next,hcap,n1,n2,n3⟩,?_⟩
    simp only[muCyc,aSet,List.length_map]
    omega
  ·have hr:rest=[]:=by
    cases rest with
    | nil=>rfl
    | cons a r=>simp at h1
   subst hr
   refine⟨_,(List.Sublist.cons _ (List.Sublist.cons _ (List.Sublist.refl _))),rfl,fun j y hj hy => ?_⟩
   by_cases e:j=k
   ·subst e;rw[hev] at hy;cases hy;exact hd.none
   ·exact hI j y (by omega) hy
 ·rintro L' ⟨rfl,hI⟩
  have n45:¬b4=b5:=by omega
  simp only[go_sem]
  refine W1 n45 ?_
  have hm:aCyc ps = .tup [aEid (0,0),ab false]:=by
   unfold aCyc
   rw[cycF_none (fun j y hj=>hI j y (by unfold evArgs;rw[List.length_map];exact(List.getElem?_eq_some_iff.1 hj).1) hj)]
  rw[hm]
  refine ret_eq ?_
  simp only[go_sem,n45]
 ·rintro e L' ⟨he,id,hc,rfl⟩
  subst he
  show retK _ _ _ _ _
  have hm:aCyc ps = .tup [aEid id,ab true]:=by unfold aCyc;rw[hc]
  rw[hm]
  refine ret_eq ?_
  simp only[go_sem,show ¬b4=b5 by omega]
end Go.AL
end
section
namespace Go.AL
open Go Go.RowKit
set_option maxRecDepth 4000
def evAt (ps:List Pr) (x:Eid):Int:=evF ps x.1.toNat (x.2 - 1).toNat
def evFirst (ps:List Pr):Option (Eid × Int):=((evIds ps).find? (fun x=>evAt ps x.1 != 0)).map fun x=>(x.1,evAt ps x.1)
def procFirst (ps:List Pr):Option (Eid × Int):=((List.range ps.length).find? (fun p=>procF ps p != 0)).map fun (p:Nat)=>(((p:Int),0),procF ps p)
noncomputable def faultF (ps:List Pr):Eid × Int :=
 if !inI ps.length 1 8 then ((0,0),1) else
 match procFirst ps with
 | some x=>x
 | none=>match evFirst ps with
  | some x=>x
  | none=>match msgF ps with
   | some x=>x
   | none=>match cycF ps with
    | some id=>(id,10)
    | none=>((0,0),0)
theorem procFirst_hit {ps:List Pr} {k:Nat} (hk:k<ps.length) (h0:∀j,j<k→procF ps j=0) (h:procF ps k ≠ 0):procFirst ps=some (((k:Int),0),procF ps k):=by
 have:(List.range ps.length).find? (fun p=>procF ps p != 0)=some k:=by
  rw[List.find?_range_eq_some]
  exact⟨by simpa using h,by simpa using hk,fun j hj=>by simpa using h0 j hj⟩
 unfold procFirst;rw[this];rfl
theorem procFirst_none {ps:List Pr} (h:∀j,j<ps.length→procF ps j=0):procFirst ps=none:=by
 have:(List.range ps.length).find? (fun p=>procF ps p != 0)=none:=by
  rw[List.find?_eq_none];intro i hi;simpa using h i (List.mem_range.1 hi)
 unfold procFirst;rw[this];rfl
theorem evFirst_hit {ps:List Pr} {k:Nat} {x:Eid × Ev} (hx:(evIds ps)[k]?=some x) (h0:∀(j:Nat) (y:Eid × Ev),j<k→(evIds ps)[j]?=some y→evAt ps y.1=0) (h:evAt ps x.1 ≠ 0):evFirst ps=some (x.1,evAt ps x.1):=by
 obtain⟨hk,he⟩:=List.getElem?_eq_some_iff.1 hx
 have:(evIds ps).find? (fun x=>evAt ps x.1 != 0)=some x:=by
  rw[List.find?_eq_some_iff_getElem]
  exact⟨by simpa using h,k,hk,he,fun j hj=>by simpa using h0 j _ hj (List.getElem?_eq_getElem (by omega))⟩
 unfold evFirst;rw[this];rfl
theorem evFirst_none {ps:List Pr} (h:∀(j:Nat) (y:Eid × Ev),(evIds ps)[j]?=some y→evAt ps y.1=0):evFirst ps=none:=by
 have:(evIds ps).find? (fun x=>evAt ps x.1 != 0)=none:=by
  rw[List.find?_eq_none]
  intro y hy
  obtain⟨j,hj⟩:=List.getElem?_of_mem hy
  simpa using h j y hj
 unfold evFirst;rw[this];rfl
theorem evFirst_get {ps:List Pr} (h:evFirst ps=none) {p:Nat} (hp:p<ps.length) {i:Nat} (hi:i<ps[p].evs.length):evF ps p i=0:=by
 unfold evFirst at h
 rw[Option.map_eq_none_iff,List.find?_eq_none] at h
 have:=h _ (List.mem_of_getElem? (evIds_get hp hi))
 simpa [evAt,show ((i:Int)+1 - 1).toNat=i by omega] using this
theorem formed_of_evFirst {ps:List Pr} (h:evFirst ps=none):Formed ps:=by
 intro p hp e he
 obtain⟨i,hi,rfl⟩:=List.getElem_of_mem he
 have h0:=evFirst_get h hp hi
 unfold evF at h0
 simp only[List.getElem?_eq_getElem hp,List.getElem?_eq_getElem hi] at h0
 split at h0
 ·cases h0
 ·rename_i hn;simpa using hn
def aFault (x:Eid × Int):AV:=.tup [aEid x.1,ai x.2]
attribute [go_sem] aFault
theorem trace_Fault (ps:List Pr) (hs:Sm ps):PC Proofs.Tryz.prog 144 [aTr ps] (aFault (faultF ps)):=by
 have hl:=hs.procs
 refine PC.enter 66 [.cell 2 102,.cell 3 28] [1,6,7,10,12] Proofs.Tryz.func144 rfl rfl rfl rfl rfl (by simp) (AWp.of ?_);simp only[go_sem]
 intro b2
 intro b3 h3
 have n23:¬b2=b3:=by omega
 refine Sd ?_
 refine AWp.of ?_;simp only[go_sem,n23]
 refine Sd ?_
 refine(trace_in _ _ _).val.use ?_;simp only[go_sem]
 refine W1 n23 ?_
 refine⟨fun h1 => ?_,fun h1 => ?_⟩
 ·refine W1 n23 ?_
  have hf:faultF ps=((0,0),1):=by unfold faultF;rw[if_pos (by simp [h1])]
  rw[hf]
  refine ret_eq ?_
  simp only[go_sem,n23]
 ·refine Wk ?_
  refine AWp.range' ps.length [] [1,2,3,22] (fun k vs L=>L=[(b3,.row 28 1 [ai 0] 1),(b2,.row 102 2 [aEid (0,0)] 1)]∧∀j,j<k→procF ps j=0) (by omega) rfl rfl rfl ⟨rfl,by omega⟩ ?_ ?_
  ·rintro k vs L' hk - ⟨rfl,hI⟩
   simp only[go_sem]
   refine Sd ?_
   refine AWp.of ?_;simp only[go_sem]
   refine Wk ?_
   refine Sd ?_
   refine(trace_processFault ps hs k hk).val.use ?_;simp only[go_sem]
   refine W1 n23 ?_
   refine⟨fun h2 => ?_,fun h2 => ?_⟩
   ·refine W1 n23 ?_
    have hf:faultF ps=(((k:Int),0),procF ps k):=by unfold faultF;rw[if_neg (by simp [h1]),procFirst_hit hk hI h2]
    rw[hf]
    refine ret_eq ?_
    simp only[go_sem,n23]
   ·refine⟨_,List.Sublist.refl _,rfl,fun j hj => ?_⟩
    by_cases e:j=k
    ·rw[e];exact h2
    ·exact hI j (by omega)
  ·rintro vs L' - ⟨rfl,hI⟩
   have hpf:=procFirst_none hI
   simp only[go_sem]
   refine Sd ?_
   refine AWp.of ?_;simp only[go_sem]
   refine Sd ?_
   refine(trace_events ps).val.use ?_;simp only[go_sem]
   refine AWp.block (AWp.rangeFunc rfl [1,2,3] (evArgs ps) (fun k L=>L=[(b3,.row 28 1 [ai 0] 1),(b2,.row 102 2 [aEid (0,0)] 1)]∧∀(j:Nat) (y:Eid × Ev),j<k→(evIds ps)[j]?=some y→evAt ps y.1=0)
    (fun e L=>e = .ret∧∃id n,evFirst ps=some (id,n)∧L=[(b3,.row 28 1 [ai n] 1),(b2,.row 102 2 [aEid id] 1)])
    rfl (trace_events1 ps hs) (fun x hx=>by obtain⟨k,hk⟩:=List.getElem?_of_mem hx;obtain⟨_,_,_,_,_,_,rfl⟩:=evArgs_inv hk;rfl) ⟨by simp [aEid],by omega⟩ ?_ ?_ ?_)
   ·rintro k x L' l hx ⟨rfl,hI⟩
    obtain⟨p,hp,i,hi,hk,hev,rfl⟩:=evArgs_inv hx
    have hat:evAt ps ((p:Int),(i:Int)+1)=evF ps p i:=by simp only[evAt,Int.toNat_natCast,show ((i:Int)+1 - 1).toNat=i by omega]
    simp only[go_sem]
    refine Sd ?_
    refine AWp.of ?_;simp only[go_sem]
    refine Sd ?_
    intros
    refine AWp.of ?_;simp only[go_sem]
    refine Sd ?_
    intros
    refine AWp.of ?_;simp only[go_sem]
    refine Sd ?_
    refine(trace_eventFault ps hs p hp i hi).val.use ?_;simp only[go_sem]
    refine W1 n23 ?_
    refine⟨fun h2 => ?_,fun h2 => ?_⟩
    ·refine W1 n23 ?_
     rw[← hat] at h2
     exact⟨_,List.Sublist.refl _,_,_,evFirst_hit hev hI h2,by rw[hat]⟩
    ·refine⟨_,List.Sublist.refl _,rfl,fun j y hj hy => ?_⟩
     by_cases e:j=k
     ·subst e;rw[hev] at hy;cases hy;rw[hat];exact h2
     ·exact hI j y (by omega) hy
   ·rintro L' ⟨rfl,hI⟩
    have hef:=evFirst_none (ps:=ps) (fun j y hj=>hI j y (by unfold evArgs;rw[List.length_map];exact(List.getElem?_eq_some_iff.1 hj).1) hj)
    have hfm:=formed_of_evFirst hef
    simp only[go_sem]
    refine Sd ?_
    refine AWp.of ?_;simp only[go_sem]
    have hmf:=trace_messageFault ps hs hfm
    have hcf:=trace_cyclic ps hs hfm
    unfold aMsg at hmf
    cases hm:msgF ps with
    | some x =>
     obtain⟨id,n⟩:=x
     rw[hm] at hmf
     have hn:n ≠ 0:=by
      unfold msgF at hm
      split at hm
      ·rename_i k hk
       have:=List.find?_some hk
       cases hm
       simpa using this
      ·cases hm
     have hf:faultF ps=(id,n):=by unfold faultF;rw[if_neg (by simp [h1]),hpf,hef,hm]
     refine Sd ?_
     refine(hmf).val.use ?_;simp only[go_sem]
     refine Sd ?_
     intro b _ _
     refine W2 n23 hn ?_
     rw[hf]
     refine ret_eq ?_
     simp only[go_sem,n23]
    | none =>
     rw[hm] at hmf
     refine Sd ?_
     refine(hmf).val.use ?_;simp only[go_sem]
     refine Sd ?_
     intro b _ _
     refine Wk ?_
     unfold aCyc at hcf
     cases hc:cycF ps with
     | some id =>
      rw[hc] at hcf
      have hf:faultF ps=(id,10):=by unfold faultF;rw[if_neg (by simp [h1]),hpf,hef,hm,hc]
      refine Sd ?_
      refine(hcf).val.use ?_;simp only[go_sem]
      refine Sd ?_
      intro b _ _
      refine W1 n23 ?_
      rw[hf]
      refine ret_eq ?_
      simp only[go_sem,n23]
     | none =>
      rw[hc] at hcf
      have hf:faultF ps=((0,0),0):=by unfold faultF;rw[if_neg (by simp [h1]),hpf,hef,hm,hc]
      refine Sd ?_
      refine(hcf).val.use ?_;simp only[go_sem]
      refine Sd ?_
      intro b _ _
      refine W1 n23 ?_
      rw[hf]
      refine ret_eq ?_
      simp only[go_sem,n23]
   ·rintro e L' ⟨he,id,n,hc,rfl⟩
    subst he
    show retK _ _ _ _ _
    have hf:faultF ps=(id,n):=by unfold faultF;rw[if_neg (by simp [h1]),hpf,hc]
    rw[hf]
    refine ret_eq ?_
    simp only[go_sem,n23]
noncomputable def validF (ps:List Pr):Bool:=decide ((faultF ps).2=0)
theorem trace_Valid (ps:List Pr) (hs:Sm ps):PC Proofs.Tryz.prog 110 [aTr ps] (ab (validF ps)):=by
 refine PC.enter 12 [.tmp 2] [1,3] Proofs.Tryz.func110 rfl rfl rfl rfl rfl (by simp) (AWp.of ?_);simp only[go_sem]
 refine Wk ?_
 refine Sd ?_
 refine(trace_Fault ps hs).val.use ?_;simp only[go_sem]
 refine Sd ?_
 intros
 refine AWp.of ?_;simp only[go_sem]
 refine Wk ?_
 refine ret_eq ?_;simp only[go_sem]
 rfl
def cntOk (ps:List Pr) (c:List Int) (p:Nat):Bool :=
 match ps[p]?,c[p]? with
 | some x,some n=>decide (0≤n) && decide (n≤x.evs.length)
 | _,_=>true
def inRangeF (ps:List Pr) (c:List Int):Bool:=(List.range c.length).all (cntOk ps c)
noncomputable def sizedF (ps:List Pr) (l:List (List Int)):Bool:=validF ps && !l.any fun c => !decide (c.length=ps.length)
def cAt (c:List Int) (p:Int):Int:=c.getD p.toNat 0
def badEv (ps:List Pr) (c:List Int) (x:Eid × Ev):Bool :=
 decide (x.2.kind=3) && decide (x.1.2≤cAt c x.1.1) && decide (cAt c (findIn (evIds ps) 2 x.2.msg).1<(findIn (evIds ps) 2 x.2.msg).2)
def missF (ps:List Pr) (c:List Int):Option (Eid × Eid):=((evIds ps).find? (badEv ps c)).map fun x=>(findIn (evIds ps) 2 x.2.msg,x.1)
def closedF (ps:List Pr) (c:List Int):Bool:=!(evIds ps).any (badEv ps c)
noncomputable def givenF (ps:List Pr) (l:List (List Int)) (procs:List Int):Int :=
 if !sizedF ps l then 1 else if !l.all (inRangeF ps) then 2 else if !procs.all (fun p=>decide (0≤p) && decide (p<ps.length)) then 2 else if !l.all (closedF ps) then 18 else 0
def assignL (s:List Int) (l:List (Int × Int)):List Int:=l.foldl (fun s a=>s.set a.1.toNat a.2) s
def stateAt (x:Pr) (k:Nat):List Int:=(x.evs.take k).foldl (fun s e=>assignL s e.asg) (x.vars.map (·.2))
theorem assignL_length (l:List (Int × Int)) (s:List Int):(assignL s l).length=s.length:=by
 induction l generalizing s with
 | nil=>rfl
 | cons a l ih=>simp only[assignL,List.foldl_cons] at *;rw[ih];simp
theorem stateAt_length (x:Pr) (k:Nat):(stateAt x k).length=x.vars.length:=by
 unfold stateAt
 generalize x.evs.take k=l
 have key:∀s:List Int,(l.foldl (fun s e=>assignL s e.asg) s).length=s.length:=by
  induction l with
  | nil=>intro s;rfl
  | cons e l ih=>intro s;simp only[List.foldl_cons];rw[ih,assignL_length]
 rw[key];simp
theorem stateAt_succ (x:Pr) (k:Nat) (hk:k<x.evs.length):stateAt x (k+1)=assignL (stateAt x k) x.evs[k].asg:=by
 unfold stateAt
 rw[List.take_succ_eq_append_getElem hk,List.foldl_append];rfl
theorem assignL_succ (s:List Int) (l:List (Int × Int)) (k:Nat) (hk:k<l.length):assignL s (l.take (k+1))=(assignL s (l.take k)).set l[k].1.toNat l[k].2:=by
 unfold assignL
 rw[List.take_succ_eq_append_getElem hk,List.foldl_append];rfl
def stArgs (x:Pr):List (List AV):=(List.range (x.evs.length+1)).map fun (k:Nat)=>[ai k,aInts (stateAt x k)]
theorem stArgs_get (x:Pr) (k:Nat) (hk:k≤x.evs.length):(stArgs x)[k]?=some [ai k,aInts (stateAt x k)]:=by
 unfold stArgs;rw[List.getElem?_map,List.getElem?_range (by omega)];rfl
def AsgOk (x:Pr):Prop:=∀e ∈ x.evs,∀a ∈ e.asg,0≤a.1∧a.1<x.vars.length
theorem variable_states (x:Pr):PC Proofs.Tryz.prog 151 [aPr x] (.clo 189 [.rp 3 [aPr x] 0 0]):=by
 refine PC.enter 4 [.tmp 2] [1] Proofs.Tryz.func151 rfl rfl rfl rfl rfl (by simp) (AWp.of ?_);simp only[go_sem]
 refine Wk ?_
 refine ret_eq ?_;simp only[go_sem]
theorem variable_states1 (x:Pr) (h1:x.vars.length≤1000000) (h2:x.evs.length≤1000000) (h3:∀e ∈ x.evs,e.asg.length≤1000000) (ha:AsgOk x):IterC Proofs.Tryz.prog (.clo 189 [.rp 3 [aPr x] 0 0]) (stArgs x):=by
 intro y L I S hy h0 step
 refine MCalls.clo ?_
 simp only[List.cons_append,List.nil_append]
 have step':∀(k:Nat) (hk:k≤x.evs.length) L',I k L'→MVal Proofs.Tryz.prog y [ai k,aInts (stateAt x k)] L' fun r L''=>(r=ab true∧I (k+1) L'')∨(r=ab false∧S L''):=fun k hk L' hI =>
  step k _ L' (stArgs_get x k hk) hI
 have hlen:(stArgs x).length=x.evs.length+1:=by unfold stArgs;simp
 rw[hlen]
 refine MCalls.enter' 58 [] [5,7,9,20] Proofs.Tryz.func189 rfl rfl rfl rfl rfl (by simp) (AWp.of ?_);simp only[go_sem]
 refine AWp.cut [0,1,3] (fun vs L'=>∃v Ln,vs=[y,.rp 3 [aPr x] 0 0,v]∧L'=Ln ++ L∧AppSt 3 1 ((x.vars.map (·.2)).map ai) v Ln) ?_ ?_
 ·refine Sd ?_
  refine AWp.of ?_;simp only[go_sem]
  refine AWp.range' x.vars.length [3] [0,1,11,12] (fun k vs L'=>∃v Ln,vs=[v]∧L'=Ln ++ L∧AppSt 3 1 (((x.vars.take k).map (·.2)).map ai) v Ln) (by omega) rfl rfl rfl ⟨anil,[],rfl,rfl,.nil⟩ ?_ ?_
  ·rintro k vs L' hk - ⟨v,Ln,rfl,rfl,hA⟩
   have hsu:((x.vars.take (k+1)).map (·.2)).map ai=((x.vars.take k).map (·.2)).map ai ++ [ai x.vars[k].2]:=by
    rw[List.take_succ_eq_append_getElem hk,List.map_append,List.map_append];rfl
   have htl:(x.vars.take k).length≤x.vars.length:=by simp;omega
   rw[hsu]
   generalize hys:((x.vars.take k).map (·.2)).map ai=ys at *
   have hyl:ys.length≤x.vars.length:=by rw[← hys];simpa using htl
   rcases hA.inv with ⟨e1,rfl,rfl⟩|⟨b,cap,rfl,rfl⟩
   ·simp only[go_sem]
    refine Sd ?_
    refine AWp.of ?_;simp only[go_sem,getD_map hk]
    refine Sd ?_
    intros
    refine AWp.of ?_;simp only[go_sem]
    refine Sd ?_
    intro b' cap' _ _
    refine⟨_,List.Sublist.refl _,_,[(b',.row 3 1 [ai x.vars[k].2] cap')],rfl,rfl,?_⟩
    rw[e1]
    exact .row _ _ _
   ·simp only[go_sem]
    refine Sd ?_
    refine AWp.of ?_;simp only[go_sem,getD_map hk]
    refine Sd ?_
    intros
    refine AWp.of ?_;simp only[go_sem]
    refine Sd ?_
    intro b' cap' _ _
    refine⟨_,List.Sublist.refl _,_,[(b',.row 3 1 (ys ++ [ai x.vars[k].2]) cap')],rfl,rfl,?_⟩
    have:=AppSt.row (t:=3) (k:=1) b' (ys ++ [ai x.vars[k].2]) cap'
    simpa using this
  ·rintro vs L' - ⟨v,Ln,rfl,rfl,hA⟩
   simp only[go_sem]
   rw[List.take_length] at hA
   exact⟨_,List.Sublist.refl _,_,_,rfl,rfl,hA⟩
 ·rintro vs L' - ⟨v,Ln,rfl,rfl,hA⟩
  have hst0:x.vars.map (·.2)=stateAt x 0:=by simp [stateAt]
  rw[hst0] at hA
  have hfo:=hA.fo
  -- one call of the round,with a copy of what the memory holds
  have give:∀(k:Nat) (Ln Li:AHeap) (_:k≤x.evs.length),AppSt 3 1 ((stateAt x k).map ai) v Ln→I k Li →
    MVal Proofs.Tryz.prog (.v (.func (.func 190) #[] #[])) [v] (Ln ++ Li) fun r L'=>fo r=(True,r)∧∀K:AV→AHeap→Prop,
     (∀L2,I (k+1) L2→K (ab true) (Ln ++ L2))→(∀L2,S L2→K (ab false) (Ln ++ L2))→MVal Proofs.Tryz.prog y [ai k,r] L' K:=fun k Ln Li hk hA hI=>by
   have hc:=(MCalls.viewed (Vws.cons (hA.vw Li) .nil) (ints_cloneO (stateAt x k) (by rw[stateAt_length];omega)) (fun r L1 h=>h.own (own_ints _))).val
   refine hc.mono ?_
   rintro r L' ⟨L1,rfl,hA1⟩
   refine⟨hA1.fo,fun K h1 h2 => ?_⟩
   have hvw:Vw L1 r (aInts (stateAt x k)):=by have:=hA1.vw [];rw[List.append_nil] at this;exact this
   refine MVal.pass (Lf:=L1) (Li:=Li) (Lr:=Ln) (List.Perm.append_left _ List.perm_append_comm) (Vws.cons (.refl _) (Vws.cons hvw .nil)) (step' k hk Li hI) ?_
   rintro r' L2 (⟨rfl,hI2⟩|⟨rfl,hS⟩)
   ·exact⟨_,List.perm_append_comm,h1 _ hI2⟩
   ·exact⟨_,List.perm_append_comm,h2 _ hS⟩
  simp only[go_sem]
  refine Sd ?_
  refine AWp.of ?_;simp only[go_sem,hfo]
  simp only[hy,true_and]
  refine(give 0 Ln L (by omega) hA h0).mono ?_
  rintro r L' ⟨hr,hK⟩
  simp only[go_sem,hr,hy]
  refine hK _ ?_ ?_
  ·intro L2 hI
   simp only[go_sem]
   refine Sd ?_
   refine AWp.of ?_;simp only[go_sem]
   refine Sd ?_
   refine AWp.of ?_;simp only[go_sem]
   refine AWp.range' x.evs.length [] [0,3,29,30] (fun k vs L'=>∃Ln Li,L'=Ln ++ Li∧I (k+1) Li∧AppSt 3 1 ((stateAt x k).map ai) v Ln) (by omega) rfl rfl rfl ⟨Ln,L2,rfl,hI,hA⟩ ?_ ?_
   ·rintro k vs L' hk - ⟨Ln,Li,rfl,hI,hA⟩
    simp only[go_sem]
    refine Sd ?_
    refine AWp.of ?_;simp only[go_sem,getD_map hk]
    have hem:x.evs[k] ∈ x.evs:=List.getElem_mem hk
    have hal:=h3 _ hem
    have hao:=ha _ hem
    have hsu:=stateAt_succ x k hk
    refine Sd ?_
    intros
    refine AWp.of ?_;simp only[go_sem]
    refine AWp.range' x.evs[k].asg.length [] [0,3,6,29,30,31,37,38] (fun j vs L'=>∃Ln Li,L'=Ln ++ Li∧I (k+1) Li∧AppSt 3 1 ((assignL (stateAt x k) (x.evs[k].asg.take j)).map ai) v Ln) (by omega) rfl rfl rfl ⟨Ln,Li,rfl,hI,hA⟩ ?_ ?_
    ·rintro j vs L' hj - ⟨Ln,Li,rfl,hI,hA⟩
     obtain⟨ha1,ha2⟩:=hao _ (List.getElem_mem hj)
     have hl2:(assignL (stateAt x k) (x.evs[k].asg.take j)).length=x.vars.length:=by rw[assignL_length,stateAt_length]
     have hs2:=assignL_succ (stateAt x k) x.evs[k].asg j hj
     rcases hA.inv with ⟨e1,rfl,rfl⟩|⟨b,cap,rfl,rfl⟩
     ·have:(assignL (stateAt x k) (x.evs[k].asg.take j)).length=0:=by simpa using congrArg List.length e1
      omega
     ·generalize hS':assignL (stateAt x k) (x.evs[k].asg.take j)=s' at *
      have hn:x.evs[k].asg[j].1.toNat<s'.length:=by omega
      simp only[go_sem]
      refine Sd ?_
      refine AWp.of ?_;simp only[go_sem,getD_map hj]
      refine Sd ?_
      intros
      refine AWp.of ?_;simp only[go_sem,getD_map hn]
      refine Sd ?_
      refine⟨_,List.Sublist.refl _,[(b,.row 3 1 ((s'.map ai).set x.evs[k].asg[j].1.toNat (ai x.evs[k].asg[j].2)) cap)],Li,rfl,hI,?_⟩
      rw[hs2,List.map_set]
      have:=AppSt.row (t:=3) (k:=1) b ((s'.map ai).set x.evs[k].asg[j].1.toNat (ai x.evs[k].asg[j].2)) cap
      simpa using this
    ·rintro vs L' - ⟨Ln,Li,rfl,hI,hA⟩
     rw[List.take_length,← hsu] at hA
     simp only[go_sem]
     refine Sd ?_
     refine AWp.of ?_;simp only[go_sem,hfo]
     simp only[hy,true_and]
     refine Sd ?_
     refine(give (k+1) Ln Li (by omega) hA hI).mono ?_
     rintro r L' ⟨hr,hK⟩
     simp only[go_sem,hr,hy]
     refine hK _ ?_ ?_
     ·intro L2 hI
      simp only[go_sem]
      refine Wk ?_
      exact⟨_,List.Sublist.refl _,Ln,L2,rfl,hI,hA⟩
     ·intro L2 hS
      simp only[go_sem]
      refine Wk ?_
      refine ret_sub L2 (List.sublist_append_right _ _) ?_
      simp only[go_sem]
      exact .inr hS
   ·rintro vs L' - ⟨Ln,Li,rfl,hI,hA⟩
    simp only[go_sem]
    refine ret_sub Li (List.sublist_append_right _ _) ?_
    simp only[go_sem]
    exact .inl hI
  ·intro L2 hS
   simp only[go_sem]
   refine Wk ?_
   refine ret_sub L2 (List.sublist_append_right _ _) ?_
   simp only[go_sem]
   exact .inr hS
def valuesAt (ps:List Pr) (c:List Int):List (List Int):=(ps.zip c).map fun x=>stateAt x.1 x.2.toNat
theorem asg_of_valid {ps:List Pr} (h:validF ps=true):∀(p:Nat) (hp:p<ps.length),AsgOk ps[p]:=by
 intro p hp e he a haa
 obtain⟨i,hi,rfl⟩:=List.getElem_of_mem he
 obtain⟨k,hk,rfl⟩:=List.getElem_of_mem haa
 have hef:evFirst ps=none:=by
  unfold validF faultF at h
  simp only[decide_eq_true_eq] at h
  split at h
  ·simp at h
  ·cases h1:procFirst ps with
   | some x =>
    rw[h1] at h
    unfold procFirst at h1
    rw[Option.map_eq_some_iff] at h1
    obtain⟨q,hq,rfl⟩:=h1
    have:=List.find?_some hq
    simp at this
    exact absurd h this
   | none =>
    rw[h1] at h
    cases h2:evFirst ps with
    | none=>rfl
    | some x =>
     rw[h2] at h
     unfold evFirst at h2
     rw[Option.map_eq_some_iff] at h2
     obtain⟨q,hq,rfl⟩:=h2
     have:=List.find?_some hq
     simp at this
     exact absurd h this
 have h0:=evFirst_get hef hp hi
 unfold evF at h0
 simp only[List.getElem?_eq_getElem hp,List.getElem?_eq_getElem hi] at h0
 split at h0
 ·cases h0
 ·split at h0
  ·cases h0
  ·split at h0
   ·cases h0
   ·by_cases hz:∀j,j<ps[p].evs[i].asg.length→asgF ps[p].vars.length ps[p].evs[i].asg j=0
    ·have:=hz k hk
     unfold asgF at this
     simp only[List.getElem?_eq_getElem hk] at this
     split at this
     ·cases this
     ·rename_i hn
      simp only[inI,Bool.or_eq_true,Bool.not_eq_true',Bool.and_eq_false_iff,not_or,decide_eq_false_iff_not] at hn
      omega
    ·exfalso
     apply hz
     intro j hj
     induction j using Nat.strongRecOn with
     | _ j ih =>
      by_cases hj0:asgF ps[p].vars.length ps[p].evs[i].asg j=0
      ·exact hj0
      ·rw[fstF_hit hj (fun m hm=>ih m hm (by omega)) hj0] at h0
       exact absurd h0 hj0
def evq (ps:List Pr) (p k:Nat):Ev:=(ps.getD p ⟨⟨#[]⟩,[],[]⟩).evs.getD k ⟨0,0,0,0,[]⟩
def nev (ps:List Pr) (p:Nat):Nat:=(ps.getD p ⟨⟨#[]⟩,[],[]⟩).evs.length
def sndr (ps:List Pr) (m:Int):Eid:=findIn (evIds ps) 2 m
def Rdy (ps:List Pr) (c:Nat→Nat) (p:Nat):Prop :=
 p<ps.length∧c p<nev ps p∧((evq ps p (c p)).kind=3→0<(sndr ps (evq ps p (c p)).msg).2∧(sndr ps (evq ps p (c p)).msg).2≤c (sndr ps (evq ps p (c p)).msg).1.toNat)
instance (ps:List Pr) (c:Nat→Nat) (p:Nat):Decidable (Rdy ps c p):=by unfold Rdy;infer_instance
def joinV (v w:List Int):List Int:=List.zipWith max v w
def tickV (v:List Int) (p:Nat):List Int:=v.set p (v.getD p 0+1)
def stOf (S:Nat→List (List Int)) (p k:Nat):List Int:=(S p).getD k []
def preV (ps:List Pr) (S:Nat→List (List Int)) (p k:Nat):List Int:=if k=0 then List.replicate ps.length 0 else stOf S p (k - 1)
def rawV (ps:List Pr) (S:Nat→List (List Int)) (p k:Nat):List Int :=
 if (evq ps p k).kind=3 then joinV (preV ps S p k) (stOf S (sndr ps (evq ps p k).msg).1.toNat ((sndr ps (evq ps p k).msg).2 - 1).toNat) else preV ps S p k
def vecV (ps:List Pr) (S:Nat→List (List Int)) (p k:Nat):List Int:=tickV (rawV ps S p k) p
def upS (S:Nat→List (List Int)) (p:Nat) (v:List Int):Nat→List (List Int):=fun q=>if q=p then S p ++ [v] else S q
def lenS (S:Nat→List (List Int)):Nat→Nat:=fun q=>(S q).length
inductive Gen (ps:List Pr):(Nat→List (List Int))→Prop
 | init:Gen ps fun _=>[]
 | step {S:Nat→List (List Int)} {p:Nat} (h:Gen ps S) (hr:Rdy ps (lenS S) p):Gen ps (upS S p (vecV ps S p (S p).length))
open Classical in
noncomputable def stampF (ps:List Pr):Nat→List (List Int):=if h:∃S,Gen ps S∧∀p,¬Rdy ps (lenS S) p then Classical.choose h else fun _=>[]
end Go.AL
end
section
namespace Go.AL
open Go Go.RowKit
set_option maxRecDepth 4000
def totS (n:Nat) (c:Nat→Nat):Nat:=((List.range n).map c).sum
theorem totS_succ (n:Nat) (c:Nat→Nat):totS (n+1) c=totS n c+c n:=by simp [totS,List.range_succ]
theorem Reach.rank {ps:List Pr} {f:Eid→Int} (h:∀x,VEv ps x→∀y ∈ afterL ps x,f x<f y) {x y:Eid} (hr:Reach ps x y) (hx:VEv ps x):f x<f y:=by
 have key:f x<f y∧VEv ps y:=by
  induction hr with
  | single hn=>exact⟨h _ hx _ hn,Reach.valid (.single hn) hx⟩
  | tail hr hn ih=>exact⟨Int.lt_trans ih.1 (h _ ih.2 _ hn),Reach.valid (.single hn) ih.2⟩
 exact key.1
theorem cycF_rank {ps:List Pr} (f:Eid→Int) (h:∀x ∈ evIds ps,∀y ∈ afterL ps x.1,f x.1<f y):cycF ps=none:=by
 have hv:∀x,VEv ps x→∀y ∈ afterL ps x,f x<f y:=by
  rintro x ⟨p,hp,i,hi,rfl⟩ y hy
  exact h _ (List.mem_of_getElem? (evIds_get hp hi)) y hy
 refine cycF_none fun j y hj hr => ?_
 obtain⟨p,hp,i,hi,_,rfl⟩:=evIds_inv hj
 exact Int.lt_irrefl _ (hr.rank hv ⟨p,hp,i,hi,rfl⟩)
def mn2 (a b:Int):Int:=if b<a then b else a
def mx2 (a b:Int):Int:=if a<b then b else a
def minL:List Int→Int | []=>0|a :: r=>r.foldl mn2 a
def maxL:List Int→Int | []=>0|a :: r=>r.foldl mx2 a
theorem mn2_le (a b:Int):mn2 a b≤a∧mn2 a b≤b:=by unfold mn2;split <;> omega
theorem mx2_le (a b:Int):a≤mx2 a b∧b≤mx2 a b:=by unfold mx2;split <;> omega
theorem minL_snoc {l:List Int} (h:l ≠ []) (y:Int):minL (l ++ [y])=mn2 (minL l) y:=by
 cases l with
 | nil=>exact absurd rfl h
 | cons a r=>simp only[minL,List.cons_append,List.foldl_append,List.foldl_cons,List.foldl_nil]
theorem maxL_snoc {l:List Int} (h:l ≠ []) (y:Int):maxL (l ++ [y])=mx2 (maxL l) y:=by
 cases l with
 | nil=>exact absurd rfl h
 | cons a r=>simp only[maxL,List.cons_append,List.foldl_append,List.foldl_cons,List.foldl_nil]
theorem fold_mn (r:List Int):∀a,r.foldl mn2 a≤a∧∀y ∈ r,r.foldl mn2 a≤y:=by
 induction r with
 | nil=>intro a;exact⟨Int.le_refl _,fun y hy=>by cases hy⟩
 | cons b r ih =>
  intro a
  obtain⟨h1,h2⟩:=ih (mn2 a b)
  have:=mn2_le a b
  simp only[List.foldl_cons]
  refine⟨by omega,fun y hy => ?_⟩
  rcases List.mem_cons.1 hy with rfl|hy
  ·omega
  ·exact h2 y hy
theorem fold_mx (r:List Int):∀a,a≤r.foldl mx2 a∧∀y ∈ r,y≤r.foldl mx2 a:=by
 induction r with
 | nil=>intro a;exact⟨Int.le_refl _,fun y hy=>by cases hy⟩
 | cons b r ih =>
  intro a
  obtain⟨h1,h2⟩:=ih (mx2 a b)
  have:=mx2_le a b
  simp only[List.foldl_cons]
  refine⟨by omega,fun y hy => ?_⟩
  rcases List.mem_cons.1 hy with rfl|hy
  ·omega
  ·exact h2 y hy
theorem minL_le {l:List Int} {y:Int} (h:y ∈ l):minL l≤y:=by
 cases l with
 | nil=>cases h
 | cons a r=>rcases List.mem_cons.1 h with rfl|h;exact(fold_mn r _).1;exact(fold_mn r _).2 _ h
theorem le_maxL {l:List Int} {y:Int} (h:y ∈ l):y≤maxL l:=by
 cases l with
 | nil=>cases h
 | cons a r=>rcases List.mem_cons.1 h with rfl|h;exact(fold_mx r _).1;exact(fold_mx r _).2 _ h
theorem minL_take {l:List Int} {k:Nat} (h0:0<k) (hk:k<l.length):minL (l.take (k+1))=mn2 (minL (l.take k)) l[k]:=by
 rw[List.take_succ_eq_append_getElem hk,minL_snoc]
 intro e;rw[List.take_eq_nil_iff] at e;rcases e with e|e
 ·omega
 ·subst e;simp at hk
theorem maxL_take {l:List Int} {k:Nat} (h0:0<k) (hk:k<l.length):maxL (l.take (k+1))=mx2 (maxL (l.take k)) l[k]:=by
 rw[List.take_succ_eq_append_getElem hk,maxL_snoc]
 intro e;rw[List.take_eq_nil_iff] at e;rcases e with e|e
 ·omega
 ·subst e;simp at hk
def valsF (x:Pr) (v:Nat):List Int:=(List.range (x.evs.length+1)).map fun k=>(stateAt x k).getD v 0
theorem valsF_length (x:Pr) (v:Nat):(valsF x v).length=x.evs.length+1:=by unfold valsF;simp
theorem valsF_get (x:Pr) (v:Nat) {k:Nat} (hk:k<(valsF x v).length):(valsF x v)[k]=(stateAt x k).getD v 0:=by unfold valsF;simp
theorem valsF_mem (x:Pr) (v:Nat) {k:Nat} (hk:k≤x.evs.length):(stateAt x k).getD v 0 ∈ valsF x v:=by
 unfold valsF;rw[List.mem_map];exact⟨k,List.mem_range.2 (by omega),rfl⟩
def varLo (ps:List Pr) (p:Int) (s:ByteArray):Int:=match ps[p.toNat]? with|some x=>minL (valsF x (varIx x.vars s).toNat)|none=>0
def varHi (ps:List Pr) (p:Int) (s:ByteArray):Int:=match ps[p.toNat]? with|some x=>maxL (valsF x (varIx x.vars s).toNat)|none=>0
def evN (ps:List Pr) (p:Int):Int:=match ps[p.toNat]? with|some x=>x.evs.length|none=>0
def sentTo (q:Int) (e:Ev):Bool:=decide (e.kind=2) && decide (e.peer=q)
def msgN (ps:List Pr) (p q:Int):Int:=match ps[p.toNat]? with|some x=>(x.evs.countP (sentTo q):Int)|none=>0
def tooB (a b:Int):Bool:=decide (a < -1125899906842624) || decide (1125899906842624<b)
def absF (a:Int):Int:=mx2 a (-a)
def timesF (a b:Int):Int:=if a=0∨b=0 then 0 else if 1125899906842624 / absF b<absF a then (if (decide (a<0) != decide (b<0))=true then -1125899906842625 else 1125899906842625) else a * b
abbrev Bd:=Int × Int × Bool
def bdL (ps:List Pr) (k n p q:Int) (s:ByteArray):Int × Int:=if k=1 then (n,n) else if k=3 then (0,evN ps p) else if k=4 then (0,msgN ps p q) else (varLo ps p s,varHi ps p s)
def bd2 (k:Int) (a b:Bd):Int × Int:=if k=5 then (-a.2.1,-a.1) else if k=6 then (a.1+b.1,a.2.1+b.2.1) else if k=7 then (a.1 - b.2.1,a.2.1 - b.1) else
 (minL [timesF a.1 b.1,timesF a.1 b.2.1,timesF a.2.1 b.1,timesF a.2.1 b.2.1],maxL [timesF a.1 b.1,timesF a.1 b.2.1,timesF a.2.1 b.1,timesF a.2.1 b.2.1])
def bdG (i:Int × Int):Bd:=(i.1,i.2,!tooB i.1 i.2)
def bdN (ps:List Pr) (k n p q:Int) (s:ByteArray):List Bd→Bd
 | []=>bdG (bdL ps k n p q s)
 | [a]=>if a.2.2=true then bdG (bd2 k a a) else (0,0,false)
 | a :: b :: _=>if a.2.2=true∧b.2.2=true then bdG (bd2 k a b) else (0,0,false)
mutual
def intF (ps:List Pr):Pd→Bd
 | .mk k n p q s l=>bdN ps k n p q s (intL ps l)
def intL (ps:List Pr):List Pd→List Bd
 | []=>[]
 | x :: r=>intF ps x :: intL ps r
end
theorem intL_map (ps:List Pr):∀l,intL ps l=l.map (intF ps)
 | []=>by rw[intL];rfl
 | x :: r=>by rw[intL,intL_map ps r];rfl
theorem intF_mk (ps:List Pr) (k n p q:Int) (s:ByteArray) (l:List Pd):intF ps (.mk k n p q s l)=bdN ps k n p q s (l.map (intF ps)):=by rw[intF,intL_map]
mutual
def fitB (ps:List Pr):Pd→Bool
 | .mk k n p q s l=>if k≤8 then (intF ps (.mk k n p q s l)).2.2 else fitL ps l
def fitL (ps:List Pr):List Pd→Bool
 | []=>true
 | x :: r=>fitB ps x && fitL ps r
end
theorem fitL_all (ps:List Pr):∀l,fitL ps l=l.all (fitB ps)
 | []=>by rw[fitL];rfl
 | x :: r=>by rw[fitL,fitL_all ps r];rfl
theorem fitB_mk (ps:List Pr) (k n p q:Int) (s:ByteArray) (l:List Pd):fitB ps (.mk k n p q s l)=if k≤8 then (intF ps (.mk k n p q s l)).2.2 else l.all (fitB ps):=by rw[fitB,fitL_all]
def okT (ps:List Pr) (t:Pd):Bool:=allB locB t && allB (resB ps) t && allB typB t
theorem allB_sub {f:Pd→Bool} {k n p q:Int} {s:ByteArray} {l:List Pd} (h:allB f (.mk k n p q s l)=true):f (.mk k n p q s l)=true∧∀x ∈ l,allB f x=true:=by
 rw[allB_mk,Bool.and_eq_true,List.all_eq_true] at h;exact h
theorem okT_sub {ps:List Pr} {k n p q:Int} {s:ByteArray} {l:List Pd} (h:okT ps (.mk k n p q s l)=true) :
  locB (.mk k n p q s l)=true∧resB ps (.mk k n p q s l)=true∧typB (.mk k n p q s l)=true∧∀x ∈ l,okT ps x=true∧resF x.kind=needF k:=by
 unfold okT at *
 simp only[Bool.and_eq_true] at h
 obtain⟨⟨h1,h2⟩,h3⟩:=h
 obtain⟨a1,b1⟩:=allB_sub h1
 obtain⟨a2,b2⟩:=allB_sub h2
 obtain⟨a3,b3⟩:=allB_sub h3
 refine⟨a1,a2,a3,fun x hx=>⟨by simp only[Bool.and_eq_true];exact⟨⟨b1 x hx,b2 x hx⟩,b3 x hx⟩,?_⟩⟩
 unfold typB at a3
 have:=List.any_eq_false.1 (Bool.not_eq_true' _ ▸ a3:(l.any fun x=>tyNe k x.kind)=false) x hx
 unfold tyNe at this
 simpa using this
theorem loc_len {k n p q:Int} {s:ByteArray} {l:List Pd} (h:locB (.mk k n p q s l)=true):partsF k=l.length∧numB k n=true:=by
 unfold locB at h
 simp only[Bool.and_eq_true,decide_eq_true_eq] at h
 exact h.1
structure Obs where
 var:Int→ByteArray→Int
 cnt:Int→Int
 chn:Int→Int→Int
def valN (o:Obs) (k n p q:Int) (s:ByteArray):List Int→Int
 | []=>if k=1 then n else if k=2 then o.var p s else if k=3 then o.cnt p else o.chn p q
 | [a] => -a
 | a :: b :: _=>if k=6 then a+b else if k=7 then a - b else a * b
mutual
def valF (o:Obs):Pd→Int
 | .mk k n p q s l=>valN o k n p q s (valL o l)
def valL (o:Obs):List Pd→List Int
 | []=>[]
 | x :: r=>valF o x :: valL o r
end
mutual
def AllP (f:Pd→Prop):Pd→Prop
 | .mk k n p q s l=>f (.mk k n p q s l)∧AllPL f l
def AllPL (f:Pd→Prop):List Pd→Prop
 | []=>True
 | x :: r=>AllP f x∧AllPL f r
end
theorem tooB_false {a b:Int} (h:(!tooB a b)=true) : -1125899906842624≤a∧b≤1125899906842624:=by
 unfold tooB at h;simp at h;omega
theorem absF_eq (a:Int):absF a=a.natAbs:=by unfold absF mx2;split <;> omega
theorem hull4 (a b c d:Int):(minL [a,b,c,d]≤a∧a≤maxL [a,b,c,d])∧(minL [a,b,c,d]≤b∧b≤maxL [a,b,c,d])∧(minL [a,b,c,d]≤c∧c≤maxL [a,b,c,d])∧(minL [a,b,c,d]≤d∧d≤maxL [a,b,c,d]) :=
 ⟨⟨minL_le (by simp),le_maxL (by simp)⟩,⟨minL_le (by simp),le_maxL (by simp)⟩,⟨minL_le (by simp),le_maxL (by simp)⟩,⟨minL_le (by simp),le_maxL (by simp)⟩⟩
theorem parts_cases (k:Int):(partsF k=0∧((1≤k∧k≤4)∨k=13∨k=14))∨(partsF k=1∧(k=5∨k=15∨(18≤k∧k≤21)))∨(partsF k=2∧((6≤k∧k≤12)∨k=16∨k=17))∨partsF k = -1:=by
 unfold partsF
 split
 ·exact .inl ⟨rfl,by omega⟩
 ·split
  ·exact .inr (.inl ⟨rfl,by omega⟩)
  ·split
   ·exact .inr (.inr (.inl ⟨rfl,by omega⟩))
   ·exact .inr (.inr (.inr rfl))
theorem resF_le {k:Int} (h:resF k=1):k≤8:=by unfold resF at h;split at h <;> omega
theorem child_le {ps:List Pr} {k n p q:Int} {s:ByteArray} {l:List Pd} (h:okT ps (.mk k n p q s l)=true) (hk:k≤12):∀x ∈ l,okT ps x=true∧x.kind≤8:=by
 intro x hx
 obtain⟨h1,h2⟩:=(okT_sub h).2.2.2 x hx
 refine⟨h1,resF_le ?_⟩
 rw[h2];unfold needF;rw[if_pos hk]
theorem len0 {α:Type} {l:List α} (h:l.length=0):l=[]:=List.length_eq_zero_iff.1 h
theorem len1 {α:Type} {l:List α} (h:l.length=1):∃a,l=[a]:=List.length_eq_one_iff.1 h
theorem len2 {α:Type} {l:List α} (h:l.length=2):∃a b,l=[a,b]:=by
 match l,h with
 | [a,b],_=>exact⟨a,b,rfl⟩
theorem intF_le (ps:List Pr) (t:Pd):(intF ps t).1≤(intF ps t).2.1:=by
 induction t using Pd.ind with
 | _ k n p q s l ih =>
 rw[intF_mk]
 have hv:∀(v:Nat) (x:Pr),minL (valsF x v)≤maxL (valsF x v):=fun v x=>by
  have h:=valsF_mem x v (Nat.zero_le x.evs.length)
  have:=minL_le h;have:=le_maxL h;omega
 have h4:∀a b c d:Int,minL [a,b,c,d]≤maxL [a,b,c,d]:=fun a b c d=>by have:=(hull4 a b c d).1;omega
 have h2:∀a b:Bd,a.1≤a.2.1→b.1≤b.2.1→(bd2 k a b).1≤(bd2 k a b).2:=fun a b ha hb=>by
  unfold bd2
  split
  ·simp only;omega
  ·split
   ·simp only;omega
   ·split
    ·simp only;omega
    ·exact h4 _ _ _ _
 match l,ih with
 | [],_ =>
  simp only[List.map_nil,bdN,bdG]
  unfold bdL
  split
  ·exact Int.le_refl _
  ·split
   ·simp only[evN];split <;> omega
   ·split
    ·simp only[msgN];split <;> omega
    ·simp only[varLo,varHi];split
     ·exact hv _ _
     ·exact Int.le_refl _
 | [a],ih =>
  simp only[List.map_cons,List.map_nil,bdN]
  split
  ·exact h2 _ _ (ih a (by simp)) (ih a (by simp))
  ·exact Int.le_refl _
 | a :: b :: r,ih =>
  simp only[List.map_cons,bdN]
  split
  ·exact h2 _ _ (ih a (by simp)) (ih b (by simp))
  ·exact Int.le_refl _
theorem intF_ok (ps:List Pr) (t:Pd) (h:(intF ps t).2.2=true):(-1125899906842624≤(intF ps t).1∧(intF ps t).1≤1125899906842624) ∧ -1125899906842624≤(intF ps t).2.1∧(intF ps t).2.1≤1125899906842624:=by
 have hle:=intF_le ps t
 obtain⟨k,n,p,q,s,l⟩:=t
 rw[intF_mk] at *
 have hg:∀i:Int × Int,(bdG i).2.2=true → -1125899906842624≤(bdG i).1∧(bdG i).2.1≤1125899906842624:=fun i hi=>tooB_false hi
 match l with
 | []=>have:=hg _ h;simp only[List.map_nil,bdN] at *;omega
 | [a] =>
  simp only[List.map_cons,List.map_nil,bdN] at *
  split at h
  ·rename_i e;rw[if_pos e] at *;have:=hg _ h;omega
  ·cases h
 | a :: b :: r =>
  simp only[List.map_cons,bdN] at *
  split at h
  ·rename_i e;rw[if_pos e] at *;have:=hg _ h;omega
  ·cases h
def aIv (a b:Int):AV:=.agg [ai a,ai b]
def aBd (x:Bd):AV:=.tup [aIv x.1 x.2.1,ab x.2.2]
theorem quo_eq {a b:Int} (ha:0≤a) (ha':a≤1125899906842624) (hb:0<b):IntKind.i64.wrap (a.tdiv b)=a / b:=by
 rw[Int.tdiv_eq_ediv_of_nonneg ha]
 have h1:0≤a / b:=Int.ediv_nonneg ha (Int.le_of_lt hb)
 have h2:a / b≤a:=Int.ediv_le_self b ha
 exact wrap_i64 (by unfold I64;omega)
theorem mul_small {a b:Int} (hb:b ≠ 0) (h:¬1125899906842624 / absF b<absF a) : -1125899906842624≤a * b∧a * b≤1125899906842624:=by
 rw[absF_eq,absF_eq] at h
 have hb':(0:Int)<(b.natAbs:Int):=by omega
 have h1:(a.natAbs:Int) * (b.natAbs:Int)≤1125899906842624:=(Int.le_ediv_iff_mul_le hb').1 (by omega)
 have h2:((a * b).natAbs:Int)=(a.natAbs:Int) * (b.natAbs:Int):=by rw[Int.natAbs_mul];rfl
 omega
theorem mulW_eq {a b:Int} (h:I64 (a * b)):mulW a b=a * b:=wrap_i64 h
theorem predtype_abs (a:Int) (ha : -1125899906842625≤a∧a≤1125899906842625):PC Proofs.Tryz.prog 215 [ai a] (ai (absF a)):=by
 have hsp:absF a=if a < -a then -a else a:=rfl
 generalize absF a=x at *
 refine PC.enter 7 [.tmp 2] [] Proofs.Tryz.func215 rfl rfl rfl rfl rfl (by simp) (AWp.of ?_);simp only[go_sem]
 refine Wk ?_
 refine ret_eq ?_;simp only[go_sem]
 rw[hsp]
theorem predtype_product (a b:Int) (ha : -1125899906842625≤a∧a≤1125899906842625) (hb : -1125899906842625≤b∧b≤1125899906842625):PC Proofs.Tryz.prog 184 [ai a,ai b] (ai (timesF a b)):=by
 have h1:=predtype_abs a ha
 have h2:=predtype_abs b hb
 have hsp:timesF a b=if a=0∨b=0 then 0 else if 1125899906842624 / absF b<absF a then (if (decide (a<0) != decide (b<0))=true then -1125899906842625 else 1125899906842625) else a * b:=rfl
 have hms:=fun h=>mul_small (a:=a) (b:=b) h
 have hpos:b ≠ 0→0<absF b:=fun h=>by rw[absF_eq];omega
 have hquo:=fun h=>quo_eq (a:=1125899906842624) (b:=absF b) (by decide) (by decide) h
 have hmw:=fun h=>mulW_eq (a:=a) (b:=b) h
 generalize timesF a b=r at *
 generalize absF a=A at *
 generalize absF b=B at *
 refine PC.enter 29 [.tmp 4] [] Proofs.Tryz.func184 rfl rfl rfl rfl rfl (by simp) (AWp.of ?_);simp only[go_sem]
 refine Wk ?_
 refine⟨fun h3 => ?_,fun h3 => ?_⟩
 ·refine Wk ?_
  refine ret_eq ?_;simp only[go_sem]
  rw[hsp,if_pos h3]
 intro h3'
 rw[if_neg (by intro h;rcases h with h|h;exact h3 h;exact h3' h)] at hsp
 have hB:=hpos h3'
 have hq:=hquo hB
 refine Wk ?_
 refine Sd ?_
 refine(h1).val.use ?_;simp only[go_sem]
 refine Wk ?_
 refine Sd ?_
 refine(h2).val.use ?_;simp only[go_sem]
 refine W1 hq ?_
 refine⟨fun h4 => ?_,fun h4 => ?_⟩
 ·rw[if_pos h4] at hsp
  refine Wk ?_
  refine Wk ?_
  refine⟨fun h5 => ?_,fun h5 => ?_⟩
  ·refine Wk ?_
   refine ret_eq ?_;simp only[go_sem]
   rw[hsp,if_pos (by simpa using h5)]
  ·refine Wk ?_
   refine ret_eq ?_;simp only[go_sem]
   rw[hsp,if_neg (by simpa using h5)]
 rw[if_neg h4] at hsp
 have hm:=hms h3' h4
 refine Wk ?_
 refine ret_eq ?_;simp only[go_sem]
 rw[hsp,hmw (by unfold I64;omega)]
theorem ints_minL (l:List Int) (hl:l.length≤2000000) (h0:0<l.length):PC Proofs.Tryz.prog 213 [aInts l] (ai (minL l)):=by
 have hg0:=getD_map (f:=ai) h0
 have hm1:minL (l.take 1)=l[0]:=by cases l with|nil=>simp at h0|cons a r=>rfl
 have hfull:minL (l.take l.length)=minL l:=by rw[List.take_length]
 generalize minL l=res at *
 refine PC.enter 25 [.tmp 2] [] Proofs.Tryz.func213 rfl rfl rfl rfl rfl (by simp) (AWp.of ?_);simp only[go_sem]
 refine Wk ?_
 intro _
 refine W1 hg0 ?_
 refine AWp.block (AWp.loopN [3,4] [0] (fun m vs L=>∃i:Nat,1≤i∧i≤l.length∧m=l.length - i∧L=[]∧vs=[ai (minL (l.take i)),ai i]) (l.length - 1) ⟨1,by omega,by omega,rfl,rfl,by rw[hm1];rfl⟩ ?_)
 rintro m vs L - ⟨i,i1,i2,rfl,rfl,rfl⟩
 simp only[go_sem]
 refine Wk ?_
 refine⟨fun h3 => ?_,fun h3 => ?_⟩
 ·have hil:i<l.length:=by omega
  have hg:=getD_map (f:=ai) hil
  have ht:=minL_take (l:=l) (by omega) hil
  refine W1 hg ?_
  refine⟨_,List.Sublist.refl _,l.length - (i+1),by omega,i+1,by omega,by omega,rfl,rfl,?_⟩
  rw[ht];rfl
 ·refine Wk ?_
  refine ret_eq ?_;simp only[go_sem]
  rw[← hfull,show i=l.length by omega]
theorem ints_maxL (l:List Int) (hl:l.length≤2000000) (h0:0<l.length):PC Proofs.Tryz.prog 214 [aInts l] (ai (maxL l)):=by
 have hg0:=getD_map (f:=ai) h0
 have hm1:maxL (l.take 1)=l[0]:=by cases l with|nil=>simp at h0|cons a r=>rfl
 have hfull:maxL (l.take l.length)=maxL l:=by rw[List.take_length]
 generalize maxL l=res at *
 refine PC.enter 25 [.tmp 2] [] Proofs.Tryz.func214 rfl rfl rfl rfl rfl (by simp) (AWp.of ?_);simp only[go_sem]
 refine Wk ?_
 intro _
 refine W1 hg0 ?_
 refine AWp.block (AWp.loopN [3,4] [0] (fun m vs L=>∃i:Nat,1≤i∧i≤l.length∧m=l.length - i∧L=[]∧vs=[ai (maxL (l.take i)),ai i]) (l.length - 1) ⟨1,by omega,by omega,rfl,rfl,by rw[hm1];rfl⟩ ?_)
 rintro m vs L - ⟨i,i1,i2,rfl,rfl,rfl⟩
 simp only[go_sem]
 refine Wk ?_
 refine⟨fun h3 => ?_,fun h3 => ?_⟩
 ·have hil:i<l.length:=by omega
  have hg:=getD_map (f:=ai) hil
  have ht:=maxL_take (l:=l) (by omega) hil
  refine W1 hg ?_
  refine⟨_,List.Sublist.refl _,l.length - (i+1),by omega,i+1,by omega,by omega,rfl,rfl,?_⟩
  rw[ht];rfl
 ·refine Wk ?_
  refine ret_eq ?_;simp only[go_sem]
  rw[← hfull,show i=l.length by omega]
theorem predtype_hull (l:List Int) (hl:l.length≤2000000) (h0:0<l.length):PC Proofs.Tryz.prog 183 [aInts l] (aIv (minL l) (maxL l)):=by
 have h1:=ints_minL l hl h0
 have h2:=ints_maxL l hl h0
 generalize minL l=a at *
 generalize maxL l=b at *
 refine PC.enter 8 [.cell 2 165] [] Proofs.Tryz.func183 rfl rfl rfl rfl rfl (by simp) (AWp.of ?_);simp only[go_sem]
 refine Wk ?_
 intro b2
 refine Wk ?_
 refine Sd ?_
 refine(h1).val.use ?_;simp only[go_sem]
 refine Wk ?_
 refine Sd ?_
 refine(h2).val.use ?_;simp only[go_sem]
 refine Wk ?_
 refine ret_eq ?_;simp only[go_sem]
 rfl
theorem countP_take {l:List Ev} {f:Ev→Bool} {k:Nat} (hk:k<l.length):((l.take (k+1)).countP f:Int)=(l.take k).countP f+if f l[k]=true then 1 else 0:=by
 rw[List.take_succ_eq_append_getElem hk,List.countP_append,List.countP_cons,List.countP_nil]
 split <;> simp
theorem msgN_get {ps:List Pr} {p:Nat} (hp:p<ps.length) (q:Int):msgN ps p q=(ps[p].evs.countP (sentTo q):Int):=by unfold msgN;simp only[Int.toNat_natCast,List.getElem?_eq_getElem hp]
theorem evN_get {ps:List Pr} {p:Nat} (hp:p<ps.length):evN ps p=ps[p].evs.length:=by unfold evN;simp only[Int.toNat_natCast,List.getElem?_eq_getElem hp]
theorem predtype_messages (ps:List Pr) (hs:Sm ps) (p:Int) (hpb:isPB ps.length p=true) (q:Int):PC Proofs.Tryz.prog 211 [aTr ps,ai p,ai q] (ai (msgN ps p q)):=by
 obtain⟨p,rfl,hp⟩:=isPB_nat hpb
 have hm:=List.getElem_mem hp
 have hel:=hs.evs _ hm
 have hgp:=getD_map (f:=aPr) hp
 rw[msgN_get hp]
 refine PC.enter 34 [.tmp 6] [3,9] Proofs.Tryz.func211 rfl rfl rfl rfl rfl (by simp) (AWp.of ?_);simp only[go_sem]
 refine W1 hgp ?_
 refine AWp.range' ps[p].evs.length [7] [2,15,16] (fun k vs L=>L=[]∧vs=[ai ((ps[p].evs.take k).countP (sentTo q):Int)]) (by omega) rfl rfl rfl ⟨rfl,rfl⟩ ?_ ?_
 ·rintro k vs L' hk - ⟨rfl,rfl⟩
  have hge:=getD_map (f:=aEv) hk
  have hst:=countP_take (f:=sentTo q) hk
  have hcl:(ps[p].evs.take k).countP (sentTo q)≤ps[p].evs.length:=Nat.le_trans List.countP_le_length (by rw[List.length_take];omega)
  have hsp:sentTo q ps[p].evs[k]=(decide (ps[p].evs[k].kind=2) && decide (ps[p].evs[k].peer=q)):=rfl
  generalize ps[p].evs[k]=e at *
  simp only[go_sem]
  refine W1 hge ?_
  intro b9
  refine Wk ?_
  refine⟨fun h1 => ?_,fun h1 => ?_⟩
  ·intro h2
   refine Wk ?_
   refine⟨_,List.Sublist.refl _,rfl,?_⟩
   rw[hst,hsp,decide_eq_true h1,decide_eq_true h2]
   try rfl
  ·refine⟨_,List.Sublist.refl _,rfl,?_⟩
   rw[hst,hsp,if_neg (by simp only[Bool.and_eq_true,decide_eq_true_eq];exact fun h=>h1 h.1 h.2),Int.add_zero]
 ·rintro vs L' - ⟨rfl,rfl⟩
  simp only[go_sem]
  refine Wk ?_
  refine ret_eq ?_;simp only[go_sem]
end Go.AL
end
