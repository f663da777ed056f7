/- Texts of this claim's proof: WPd, WPf, WPw, WSl, WPc, WTr1. No condition. -/
import Derived.Test.YteiafajligfbnaaGreatDoorM4
section
namespace Go.AL
open Go Go.RowKit
set_option maxRecDepth 4000
inductive Pd where
 | mk (kind n proc peer:Int) (name:ByteArray) (l:List Pd)
def Pd.l:Pd→List Pd | .mk _ _ _ _ _ l=>l
def Pd.kind:Pd→Int | .mk k _ _ _ _ _=>k
mutual
def aPd:Pd→AV
 | .mk k n p q s l => .agg [ai k,ai n,ai p,ai q,astr s,.sl 6 (aPdL l)]
def aPdL:List Pd→List AV
 | []=>[]
 | x :: r=>aPd x :: aPdL r
end
theorem aPdL_map:∀l:List Pd,aPdL l=l.map aPd
 | []=>by rw[aPdL];rfl
 | x :: r=>by rw[aPdL,aPdL_map r];rfl
@[go_sem] theorem aPd_mk (k n p q:Int) (s:ByteArray) (l:List Pd):aPd (.mk k n p q s l) = .agg [ai k,ai n,ai p,ai q,astr s,.sl 6 (l.map aPd)]:=by rw[aPd,aPdL_map]
theorem Pd.ind {P:Pd→Prop} (h:∀k n p q s l,(∀x ∈ l,P x)→P (.mk k n p q s l)):∀t,P t
 | .mk k n p q s l=>h k n p q s l fun x hx=>Pd.ind h x
termination_by t=>SizeOf.sizeOf t
decreasing_by have:=List.sizeOf_lt_of_mem hx;simp;omega
mutual
def szF:Pd→Nat
 | .mk _ _ _ _ _ l=>szL l+1
def szL:List Pd→Nat
 | []=>0
 | x :: r=>szF x+szL r
end
mutual
def dpF:Pd→Nat
 | .mk _ _ _ _ _ l=>dpL l+1
def dpL:List Pd→Nat
 | []=>0
 | x :: r=>max (dpF x) (dpL r)
end
theorem szF_pos (t:Pd):1≤szF t:=by cases t;rw[szF];omega
theorem szL_append:∀l r:List Pd,szL (l ++ r)=szL l+szL r
 | [],r=>by rw[List.nil_append,szL];omega
 | x :: l,r=>by rw[List.cons_append,szL,szL,szL_append l r];omega
theorem szL_len:∀l:List Pd,l.length≤szL l
 | []=>by simp
 | x :: l=>by rw[szL,List.length_cons];have:=szL_len l;have:=szF_pos x;omega
theorem szL_mem:∀ {l:List Pd} {x:Pd},x ∈ l→szF x≤szL l
 | y :: l,x,h=>by
  rw[szL]
  rcases List.mem_cons.1 h with rfl|h
  ·omega
  ·have:=szL_mem h;omega
theorem dpL_append:∀l r:List Pd,dpL (l ++ r)=max (dpL l) (dpL r)
 | [],r=>by rw[List.nil_append,dpL];omega
 | x :: l,r=>by rw[List.cons_append,dpL,dpL,dpL_append l r];omega
def cntF (s:Nat) (lim:Int):Int:=if (s:Int)≤lim then s else lim+1
theorem cntF_one {lim:Int} (h:0≤lim):cntF 1 lim=1:=by unfold cntF;split <;> omega
theorem cntF_step {a b:Nat} {lim:Int} (h:cntF a lim≤lim):cntF a lim+cntF b (lim - cntF a lim)=cntF (a+b) lim:=by
 unfold cntF at *
 split at h
 ·split <;> split <;> omega
 ·omega
theorem cntF_stay {a b:Nat} {lim:Int} (h:¬cntF a lim≤lim) (hab:a≤b):cntF a lim=cntF b lim:=by
 unfold cntF at *
 split at h
 ·omega
 ·split <;> split <;> omega
theorem szL_take {l:List Pd} {i:Nat} (hi:i<l.length):szL (l.take (i+1))=szL (l.take i)+szF l[i]:=by
 rw[List.take_succ_eq_append_getElem hi,szL_append,szL,szL];omega
theorem szL_take_le (l:List Pd) (i:Nat):szL (l.take i)≤szL l:=by
 have h:=szL_append (l.take i) (l.drop i)
 rw[List.take_append_drop] at h
 omega
theorem ref28_count (t:Pd):∀lim:Int,0≤lim→lim≤1000→PC Proofs.Tryz.prog 112 [aPd t,ai lim] (ai (cntF (szF t) lim)):=by
 induction t using Pd.ind with
 | _ k n p q s l ih =>
 intro lim h0 h1
 have hsz:szF (.mk k n p q s l)=1+szL l:=by rw[szF];omega
 rw[hsz]
 refine PC.enter 31 [.tmp 4] [2] Proofs.Tryz.func112 rfl rfl rfl rfl rfl (by simp) (AWp.of ?_);simp only[go_sem]
 refine Wk ?_
 -- what n is behind i rounds
 refine AWp.block (AWp.loopN [5,6] [1,2] (fun m vs L=>∃i:Nat,i≤l.length∧i≤1001∧L=[]∧m=l.length - i∧vs=[ai (cntF (1+szL (l.take i)) lim),ai i]) l.length ?_ ?_)
 ·refine⟨0,by omega,by omega,rfl,by omega,?_⟩
  rw[List.take_zero,szL,cntF_one h0];rfl
 rintro m vs L - ⟨i,hi,hi2,rfl,rfl,rfl⟩
 have hle:=szL_len (l.take i)
 have htl:(l.take i).length=i:=by rw[List.length_take];omega
 have hst:=szL_take_le l i
 have hcb:0≤cntF (1+szL (l.take i)) lim∧cntF (1+szL (l.take i)) lim≤1001:=by unfold cntF;split <;> omega
 simp only[go_sem]
 refine Wk ?_
 refine⟨fun h2 h3 => ?_,fun h2 => ?_⟩
 ·have hil:i<l.length:=by omega
  have hgi:=getD_map (f:=aPd) hil
  have hlim:(i:Int)<lim:=by
   unfold cntF at h3;split at h3 <;> omega
  have hch:=ih l[i] (List.getElem_mem hil) (lim - cntF (1+szL (l.take i)) lim) (by omega) (by omega)
  have hstep:=cntF_step (b:=szF l[i]) h3
  have hcc:cntF (szF l[i]) (lim - cntF (1+szL (l.take i)) lim)≤1001∧0≤cntF (szF l[i]) (lim - cntF (1+szL (l.take i)) lim):=by
   have:=szF_pos l[i]
   generalize cntF (1+szL (l.take i)) lim=c at *
   unfold cntF;split <;> omega
  have hsu:=szL_take hil
  have hnew:cntF (1+szL (l.take (i+1))) lim=cntF (1+szL (l.take i)) lim+cntF (szF l[i]) (lim - cntF (1+szL (l.take i)) lim):=by rw[hstep,hsu,Nat.add_assoc]
  generalize cntF (1+szL (l.take i)) lim=c at *
  generalize cntF (szF l[i]) (lim - c)=d at *
  generalize l[i]=x at *
  obtain⟨k2,n2,p2,q2,s2,l2⟩:=x
  simp only[aPd_mk] at hgi hch
  refine Sd ?_
  refine AWp.of ?_;simp only[go_sem,hgi]
  refine Sd ?_
  refine(hch).val.use ?_;simp only[go_sem]
  refine Sd ?_
  refine Wk ?_
  exact⟨_,List.Sublist.refl _,l.length - (i+1),by omega,i+1,by omega,by omega,rfl,rfl,by rw[hnew];rfl⟩
 ·refine Wk ?_
  refine ret_eq ?_;simp only[go_sem]
  by_cases h4:cntF (1+szL (l.take i)) lim≤lim
  ·have e:i=l.length:=by
    by_cases e:(i:Int)<l.length
    ·exact absurd h4 (by have:=h2 e;omega)
    ·omega
   rw[e,List.take_length]
  ·rw[cntF_stay (b:=1+szL l) h4 (by omega)]
theorem ref28_Size (t:Pd):PC Proofs.Tryz.prog 72 [aPd t] (ai (cntF (szF t) 200)):=by
 have hc:=ref28_count t 200 (by decide) (by decide)
 have hb:cntF (szF t) 200≤201:=by unfold cntF;split <;> omega
 obtain⟨k,n,p,q,s,l⟩:=t
 simp only[aPd_mk] at hc
 refine PC.enter 6 [.tmp 2] [1] Proofs.Tryz.func72 rfl rfl rfl rfl rfl (by simp) (AWp.of ?_);simp only[go_sem]
 refine Wk ?_
 refine Sd ?_
 refine(hc).val.use ?_;simp only[go_sem]
 refine Wk ?_
 refine ret_eq ?_;simp only[go_sem]
 congr 2
 split <;> omega
def capF (d:Nat) (m:Int):Int:=if (d:Int)≤m then d else m+1
theorem dpL_take {l:List Pd} {i:Nat} (hi:i<l.length):dpL (l.take (i+1))=max (dpL (l.take i)) (dpF l[i]):=by
 rw[List.take_succ_eq_append_getElem hi,dpL_append,dpL,dpL];omega
theorem ref28_Depth (t:Pd):∀m:Int,szF t≤1000000→0≤m→m≤1000→PC Proofs.Tryz.prog 73 [aPd t,ai m] (ai (capF (dpF t) m)):=by
 induction t using Pd.ind with
 | _ k n p q s l ih =>
 intro m hz h0 h1
 have hdp:dpF (.mk k n p q s l)=dpL l+1:=by rw[dpF]
 have hsz:szF (.mk k n p q s l)=szL l+1:=by rw[szF]
 have hll:=szL_len l
 rw[hdp]
 refine PC.enter 28 [.tmp 4] [2] Proofs.Tryz.func73 rfl rfl rfl rfl rfl (by simp) (AWp.of ?_);simp only[go_sem]
 refine Wk ?_
 refine Wk ?_
 refine⟨fun h2 => ?_,fun h2 => ?_⟩
 ·refine Wk ?_
  refine ret_eq ?_;simp only[go_sem]
  congr 2
  unfold capF
  split <;> omega
 ·refine Wk ?_
  refine AWp.block (AWp.count 6 l.length [5] [1,2] (fun i vs L=>L=[]∧vs=[ai (capF (dpL (l.take i)) (m - 1))]) rfl rfl ⟨rfl,?_⟩ ?_)
  ·rw[List.take_zero,dpL]
   unfold capF
   rw[if_pos (by omega)];rfl
  rintro i vs L hi - ⟨rfl,rfl⟩
  simp only[go_sem]
  have hcb:0≤capF (dpL (l.take i)) (m - 1)∧capF (dpL (l.take i)) (m - 1)≤1000:=by unfold capF;split <;> omega
  refine Wk ?_
  refine⟨fun h3 => ?_,fun h3 => ?_⟩
  ·have hil:i<l.length:=by omega
   have hgi:=getD_map (f:=aPd) hil
   have hzi:=szL_mem (List.getElem_mem hil)
   have hch:=ih l[i] (List.getElem_mem hil) (m - 1) (by omega) (by omega) (by omega)
   have hnew:capF (dpL (l.take (i+1))) (m - 1)=max (capF (dpL (l.take i)) (m - 1)) (capF (dpF l[i]) (m - 1)):=by
    rw[dpL_take hil];unfold capF;split <;> split <;> split <;> omega
   generalize capF (dpL (l.take i)) (m - 1)=c at *
   generalize capF (dpF l[i]) (m - 1)=d at *
   generalize l[i]=x at *
   obtain⟨k2,n2,p2,q2,s2,l2⟩:=x
   simp only[aPd_mk] at hgi hch
   refine Sd ?_
   refine AWp.of ?_;simp only[go_sem,hgi]
   refine Sd ?_
   refine(hch).val.use ?_;simp only[go_sem]
   refine Wk ?_
   refine⟨_,List.Sublist.refl _,rfl,?_⟩
   rw[hnew]
   congr 3
   split <;> omega
  ·refine Wk ?_
   refine ret_eq ?_;simp only[go_sem]
   rw[List.take_of_length_le (by omega)]
   congr 2
   unfold capF
   split <;> split <;> omega
def partsF (k:Int):Int:=if ((1≤k∧k≤4)∨k=13)∨k=14 then 0 else if (k=5∨k=15)∨(18≤k∧k≤21) then 1 else if ((6≤k∧k≤12)∨k=16)∨k=17 then 2 else -1
theorem ref28_parts (k:Int):PC Proofs.Tryz.prog 113 [ai k] (ai (partsF k)):=by
 refine PC.enter 45 [.tmp 2] [] Proofs.Tryz.func113 rfl rfl rfl rfl rfl (by simp) (AWp.of ?_);simp only[go_sem]
 refine Wk ?_
 refine Wk ?_
 refine⟨fun h1 => ?_,fun h1 => ?_⟩
 ·refine Wk ?_
  refine ret_eq ?_;simp only[go_sem]
  unfold partsF
  rw[if_pos h1]
 intro h2 h3
 have n1:¬(((1≤k∧k≤4)∨k=13)∨k=14):=by omega
 refine Wk ?_
 refine Wk ?_
 refine⟨fun h4 => ?_,fun h4 => ?_⟩
 ·refine Wk ?_
  refine ret_eq ?_;simp only[go_sem]
  unfold partsF
  rw[if_neg n1,if_pos (by omega)]
 intro h5 h6
 have n2:¬((k=5∨k=15)∨(18≤k∧k≤21)):=by omega
 refine Wk ?_
 refine Wk ?_
 refine⟨fun h7 => ?_,fun h7 => ?_⟩
 ·refine Wk ?_
  refine ret_eq ?_;simp only[go_sem]
  unfold partsF
  rw[if_neg n1,if_neg n2,if_pos h7]
 intro h8 h9
 refine Wk ?_
 refine ret_eq ?_;simp only[go_sem]
 unfold partsF
 rw[if_neg n1,if_neg n2,if_neg (by omega)]
mutual
def allB (f:Pd→Bool):Pd→Bool
 | .mk k n p q s l=>f (.mk k n p q s l) && allL f l
def allL (f:Pd→Bool):List Pd→Bool
 | []=>true
 | x :: r=>allB f x && allL f r
end
theorem allL_all (f:Pd→Bool):∀l,allL f l=l.all (allB f)
 | []=>by rw[allL];rfl
 | x :: r=>by rw[allL,allL_all f r];rfl
theorem allB_mk (f:Pd→Bool) (k n p q:Int) (s:ByteArray) (l:List Pd):allB f (.mk k n p q s l)=(f (.mk k n p q s l) && l.all (allB f)):=by rw[allB,allL_all]
theorem all_of {l:List Pd} {f:Pd→Bool} {k:Nat} (h:∀j (hj:j<l.length),j<k→f l[j]=true) (hk:l.length≤k):l.all f=true:=by
 rw[List.all_eq_true];intro x hx;obtain⟨j,hj,rfl⟩:=List.getElem_of_mem hx;exact h j hj (by omega)
theorem all_not {l:List Pd} {f:Pd→Bool} {i:Nat} (hi:i<l.length) (h:f l[i]=false):l.all f=false:=by
 rw[List.all_eq_false];exact⟨_,List.getElem_mem hi,by rw[h];decide⟩
theorem all_next {l:List Pd} {f:Pd→Bool} {i:Nat} (h:∀j (hj:j<l.length),j<i→f l[j]=true) (hi:i<l.length) (hx:f l[i]=true):∀j (hj:j<l.length),j<i+1→f l[j]=true:=by
 intro j hj hji
 by_cases e:j=i
 ·subst e;exact hx
 ·exact h j hj (by omega)
def numB (k n:Int):Bool:=if k=1 then decide (0≤n∧n≤1125899906842624) else decide (n=0)
def nameB (k p q:Int) (s:ByteArray):Bool:=decide (2≤k∧k≤4) || decide (p=0∧q=0∧s=ByteArray.empty)
def locB:Pd→Bool
 | .mk k n p q s l=>decide (partsF k=l.length) && numB k n && nameB k p q s
theorem ref28_nodes (t:Pd):szF t≤1000000→PC Proofs.Tryz.prog 74 [aPd t] (ab (allB locB t)):=by
 induction t using Pd.ind with
 | _ k n p q s l ih =>
 intro hz
 have hsz:szF (.mk k n p q s l)=szL l+1:=by rw[szF]
 have hll:=szL_len l
 have hsp:allB locB (.mk k n p q s l)=(decide (partsF k=l.length) && numB k n && nameB k p q s && l.all (allB locB)):=by rw[allB_mk,locB]
 generalize allB locB (.mk k n p q s l)=B at *
 refine PC.enter 62 [.tmp 2] [1] Proofs.Tryz.func74 rfl rfl rfl rfl rfl (by simp) (AWp.of ?_);simp only[go_sem]
 refine AWp.seq (AWp.seq ?_)
 repeat(first|(with_reducible refine AWp.seq ?_)|(with_reducible refine AWp.block ?_))
 refine AWp.mix mixed [0,1,2,3,4,5,6] .done (by kernel_rfl) ?_;simp only[go_sem]
 refine Sd ?_
 refine GCall.use (ai (partsF k)) (fun _=>⟨At,(ref28_parts k).val.use ⟨rfl,rfl⟩⟩) ?_;simp only[go_sem]
 refine Sd ?_
 refine Wk ?_
 refine⟨fun h1 => ?_,fun h1 => ?_⟩
 ·refine Wk ?_
  refine ret_eq ?_;simp only[go_sem]
  rw[hsp,decide_eq_false h1];simp
 rw[decide_eq_true h1,Bool.true_and] at hsp
 refine AWp.cut [1] (fun vs L=>L=[]∧vs=[.rp 6 [aPd (.mk k n p q s l)] 0 0]∧numB k n=true) ?_ ?_
 ·refine Wk ?_
  refine⟨fun h2 => ?_,fun h2 => ?_⟩
  ·refine Wk ?_
   refine⟨fun h3 => ?_,fun h3 => ?_⟩
   ·refine Wk ?_
    refine ret_eq ?_;simp only[go_sem]
    rw[hsp,show numB k n=false by unfold numB;rw[if_pos h2,decide_eq_false (by omega)]];rfl
   ·intro h4
    refine Wk ?_
    exact⟨_,List.Sublist.refl _,rfl,by unfold numB;rw[if_pos h2,decide_eq_true (by omega)]⟩
  ·refine Wk ?_
   refine⟨fun h3 => ?_,fun h3 => ?_⟩
   ·refine Wk ?_
    refine ret_eq ?_;simp only[go_sem]
    rw[hsp,show numB k n=false by unfold numB;rw[if_neg h2,decide_eq_false h3]];rfl
   ·refine Wk ?_
    exact⟨_,List.Sublist.refl _,rfl,by unfold numB;rw[if_neg h2,decide_eq_true h3]⟩
 rintro vs L - ⟨rfl,rfl,h2⟩
 rw[h2,Bool.true_and] at hsp
 simp only[go_sem]
 refine AWp.cut [1] (fun vs L=>L=[]∧vs=[.rp 6 [aPd (.mk k n p q s l)] 0 0]∧nameB k p q s=true) ?_ ?_
 ·refine Wk ?_
  refine⟨fun h3 => ?_,fun h3 => ?_⟩
  ·intro h4
   refine Wk ?_
   refine ret_eq ?_;simp only[go_sem]
   rw[hsp,show nameB k p q s=false by unfold nameB;rw[decide_eq_false (by omega),decide_eq_false (fun h=>by obtain⟨e1,e2,e3⟩:=h;rcases h4 with (h4|h4)|h4;exact h4 e1;exact h4 e2;exact h4 e3)];rfl];rfl
  ·refine Wk ?_
   refine⟨_,List.Sublist.refl _,rfl,?_⟩
   unfold nameB
   by_cases h4:2≤k∧k≤4
   ·rw[decide_eq_true h4];rfl
   ·obtain⟨⟨e1,e2⟩,e3⟩:=h3 (by omega)
    rw[decide_eq_true (show p=0∧q=0∧s=ByteArray.empty from ⟨e1,e2,e3⟩),Bool.or_true]
 rintro vs L - ⟨rfl,rfl,h3⟩
 rw[h3,Bool.true_and] at hsp
 simp only[go_sem]
 refine Wk ?_
 refine AWp.block (AWp.count 3 l.length [] [1] (fun i vs L=>L=[]∧∀j (hj:j<l.length),j<i→allB locB l[j]=true) rfl rfl ⟨rfl,by omega⟩ ?_)
 rintro i vs L hi - ⟨rfl,hI⟩
 simp only[go_sem]
 refine Wk ?_
 refine⟨fun h4 => ?_,fun h4 => ?_⟩
 ·have hil:i<l.length:=by omega
  have hgi:=getD_map (f:=aPd) hil
  have hzi:=szL_mem (List.getElem_mem hil)
  have hch:=ih l[i] (List.getElem_mem hil) (by omega)
  have hnx:=all_next hI hil
  have hno:=all_not (f:=allB locB) hil
  generalize l[i]=x at *
  obtain⟨k2,n2,p2,q2,s2,l2⟩:=x
  simp only[aPd_mk] at hgi hch
  refine W1 hgi ?_
  refine Sd ?_
  refine(hch).val.use ?_;simp only[go_sem]
  refine Wk ?_
  refine⟨fun h5 => ?_,fun h5 => ?_⟩
  ·refine Wk ?_
   refine ret_eq ?_;simp only[go_sem]
   rw[hsp,hno h5]
  ·refine Wk ?_
   exact⟨_,List.Sublist.refl _,rfl,hnx h5⟩
 ·refine Wk ?_
  refine ret_eq ?_;simp only[go_sem]
  rw[hsp,all_of hI (by omega)]
def formedB (t:Pd):Bool:=decide (szF t≤200) && decide (dpF t≤20) && allB locB t
theorem ref28_Formed (t:Pd) (hz:szF t≤1000000):PC Proofs.Tryz.prog 44 [aPd t] (ab (formedB t)):=by
 have hc:=ref28_Size t
 have hd:=ref28_Depth t 21 hz (by decide) (by decide)
 have hn:=ref28_nodes t hz
 have e1:cntF (szF t) 200≤200↔szF t≤200:=by unfold cntF;split <;> omega
 have e2:capF (dpF t) 21≤20↔dpF t≤20:=by unfold capF;split <;> omega
 have hsp:formedB t=(decide (cntF (szF t) 200≤200) && decide (capF (dpF t) 21≤20) && allB locB t):=by unfold formedB;simp only[e1,e2]
 rw[hsp]
 generalize cntF (szF t) 200=c at *
 generalize capF (dpF t) 21=d at *
 generalize allB locB t=a at *
 obtain⟨k,n,p,q,s,l⟩:=t
 simp only[aPd_mk] at hc hd hn
 refine PC.enter 15 [.tmp 2] [1] Proofs.Tryz.func44 rfl rfl rfl rfl rfl (by simp) (AWp.of ?_);simp only[go_sem]
 refine Wk ?_
 refine Sd ?_
 refine(hc).val.use ?_;simp only[go_sem]
 refine Sd ?_
 refine Gc hd ?_
 refine Sd ?_
 refine Gc hn ?_
 refine Wk ?_
 refine ret_eq ?_;simp only[go_sem]
def findS {S:Type} (step:Pd→S→Bool × S):List Pd→S→Option Nat × S
 | [],s=>(none,s)
 | x :: r,s=>if (step x s).1 then (some 0,(step x s).2) else ((findS step r (step x s).2).1.map (· + 1),(findS step r (step x s).2).2)
def idxA (o:Option Nat):Int:=match o with|some i=>i|none => -1
theorem findS_step {S:Type} (step:Pd→S→Bool × S) {l:List Pd} {s s':S} {k:Nat} (hk:k<l.length) (h:findS step l s=((findS step (l.drop k) s').1.map (· + k),(findS step (l.drop k) s').2)) :
  ((step l[k] s').1=true→findS step l s=(some k,(step l[k] s').2)) ∧
  ((step l[k] s').1=false→findS step l s=((findS step (l.drop (k+1)) (step l[k] s').2).1.map (· + (k+1)),(findS step (l.drop (k+1)) (step l[k] s').2).2)):=by
 rw[List.drop_eq_getElem_cons hk,findS] at h
 refine⟨fun e => ?_,fun e => ?_⟩
 ·rw[if_pos e] at h;rw[h];simp
 ·rw[if_neg (by rw[e];decide)] at h;rw[h];simp only[Option.map_map]
  congr 2
  funext i;simp only[Function.comp];omega
theorem preds_indexS {S:Type} (step:Pd→S→Bool × S) (Ls:S→AHeap) (Inv:S→Prop) (l:List Pd) (hl:l.length≤1000000) (g:AV) (hgf:fo g=(True,g))
  (hg:∀x ∈ l,∀s,Inv s→MVal Proofs.Tryz.prog g [aPd x] (Ls s) fun r L=>r=ab (step x s).1∧L=Ls (step x s).2) (hi:∀x ∈ l,∀s,Inv s→(step x s).1=false→Inv (step x s).2) (s:S) (hs:Inv s) :
  MCalls Proofs.Tryz.prog 110 [.sl 6 (l.map aPd),g] (Ls s) fun r L=>r=ai (idxA (findS step l s).1)∧L=Ls (findS step l s).2:=by
 refine MCalls.enter' 19 [.tmp 4] [] Proofs.Tryz.func110 rfl rfl rfl rfl rfl (by simp) (AWp.of ?_);simp only[go_sem]
 refine Sd ?_
 refine AWp.of ?_;simp only[go_sem]
 refine AWp.range' l.length [] [0,1,7] (fun k vs L=>∃s',L=Ls s'∧Inv s'∧findS step l s=((findS step (l.drop k) s').1.map (· + k),(findS step (l.drop k) s').2)) (by omega) rfl rfl rfl ⟨s,rfl,hs,by simp⟩ ?_ ?_
 ·rintro k vs L' hk hvs ⟨s',rfl,hI,hf⟩
  obtain⟨f1,f2⟩:=findS_step step hk hf
  have hm:=List.getElem_mem hk
  have hgk:=hg l[k] hm s' hI
  have hik:=hi l[k] hm s' hI
  have hgi:=getD_map (f:=aPd) hk
  generalize l[k]=x at *
  generalize step x s'=st at *
  obtain⟨k2,n2,p2,q2,s2,l2⟩:=x
  simp only[aPd_mk] at hgi hgk
  simp only[go_sem]
  refine Sd ?_
  refine AWp.of ?_;simp only[go_sem]
  refine Sd ?_
  refine AWp.of ?_;simp only[go_sem,hgi,hgf]
  refine Sd ?_
  refine hgk.mono ?_
  rintro r L'' ⟨rfl,rfl⟩
  simp only[go_sem]
  refine Wk ?_
  refine⟨fun ht => ?_,fun hf' => ?_⟩
  ·refine Wk ?_
   refine ret_own ?_
   simp only[go_sem]
   rw[f1 ht];exact⟨rfl,rfl⟩
  ·refine Wk ?_
   exact⟨_,List.Sublist.refl _,_,rfl,hik hf',f2 hf'⟩
 ·rintro vs L' hvs ⟨s',rfl,hI,hf⟩
  simp only[go_sem]
  refine Wk ?_
  refine ret_own ?_
  simp only[go_sem]
  rw[hf,List.drop_length];exact⟨rfl,rfl⟩
theorem preds_containsS {S:Type} (step:Pd→S→Bool × S) (Ls:S→AHeap) (Inv:S→Prop) (l:List Pd) (hl:l.length≤1000000) (g:AV) (hgf:fo g=(True,g))
  (hg:∀x ∈ l,∀s,Inv s→MVal Proofs.Tryz.prog g [aPd x] (Ls s) fun r L=>r=ab (step x s).1∧L=Ls (step x s).2) (hi:∀x ∈ l,∀s,Inv s→(step x s).1=false→Inv (step x s).2) (s:S) (hs:Inv s) :
  MCalls Proofs.Tryz.prog 69 [.sl 6 (l.map aPd),g] (Ls s) fun r L=>r=ab ((findS step l s).1.isSome)∧L=Ls (findS step l s).2:=by
 have h:=preds_indexS step Ls Inv l hl g hgf hg hi s hs
 generalize findS step l s=o at *
 have ho:0≤idxA o.1↔o.1.isSome=true:=by cases o.1 <;> simp [idxA]
 refine MCalls.enter' 9 [.tmp 4] [] Proofs.Tryz.func69 rfl rfl rfl rfl rfl (by simp) (AWp.of ?_);simp only[go_sem]
 refine Sd ?_
 refine AWp.of ?_;simp only[go_sem,hgf]
 refine h.val.mono ?_
 rintro r L'' ⟨rfl,rfl⟩
 simp only[go_sem]
 refine Wk ?_
 refine ret_own ?_
 simp only[go_sem]
 congr 2
 rw[Bool.eq_iff_iff,decide_eq_true_iff];exact ho
theorem findS_any (p:Pd→Bool):∀l:List Pd,(findS (fun x (_:Unit)=>(p x,())) l ()).1.isSome=l.any p
 | []=>rfl
 | x :: r=>by
  rw[findS,List.any_cons]
  by_cases h:p x=true
  ·simp [h]
  ·have:=findS_any p r
   simp only[h,Bool.false_eq_true,if_false,Bool.false_or]
   rw[← this];simp
theorem preds_containsFunc (l:List Pd) (hl:l.length≤1000000) (g:AV) (hgf:fo g=(True,g)) (p:Pd→Bool) (hg:∀x ∈ l,PV Proofs.Tryz.prog g [aPd x] (ab (p x))) :
  PC Proofs.Tryz.prog 69 [.sl 6 (l.map aPd),g] (ab (l.any p)):=by
 have h:=preds_containsS (fun x (_:Unit)=>(p x,())) (fun _=>[]) (fun _=>True) l hl g hgf (fun x hx s _=>hg x hx) (fun _ _ _ _ _=>trivial) () trivial
 rw[findS_any] at h
 exact h
def resF (k:Int):Int:=if k≤8 then 1 else 2
def needF (k:Int):Int:=if k≤12 then 1 else 2
theorem predtype_result (k:Int):PC Proofs.Tryz.prog 130 [ai k] (ai (resF k)):=by
 refine PC.enter 5 [.tmp 2] [] Proofs.Tryz.func130 rfl rfl rfl rfl rfl (by simp) (AWp.of ?_);simp only[go_sem]
 refine Wk ?_
 refine Wk ?_
 refine⟨fun h1 => ?_,fun h1 => ?_⟩
 ·refine Wk ?_
  refine ret_eq ?_;simp only[go_sem]
  unfold resF;rw[if_pos h1]
 ·refine Wk ?_
  refine ret_eq ?_;simp only[go_sem]
  unfold resF;rw[if_neg h1]
theorem predtype_need (k:Int):PC Proofs.Tryz.prog 131 [ai k] (ai (needF k)):=by
 refine PC.enter 5 [.tmp 2] [] Proofs.Tryz.func131 rfl rfl rfl rfl rfl (by simp) (AWp.of ?_);simp only[go_sem]
 refine Wk ?_
 refine Wk ?_
 refine⟨fun h1 => ?_,fun h1 => ?_⟩
 ·refine Wk ?_
  refine ret_eq ?_;simp only[go_sem]
  unfold needF;rw[if_pos h1]
 ·refine Wk ?_
  refine ret_eq ?_;simp only[go_sem]
  unfold needF;rw[if_neg h1]
def tyNe (k m:Int):Bool:=decide (¬resF m=needF k)
def typB:Pd→Bool
 | .mk k _ _ _ _ l => !l.any fun x=>tyNe k x.kind
theorem predtype_typed11 (k n p q:Int) (s:ByteArray) (l:List Pd) (x:Pd):PC Proofs.Tryz.prog 129 [aPd x,.rp 6 [aPd (.mk k n p q s l)] 0 0] (ab (tyNe k x.kind)):=by
 have hr:=predtype_result x.kind
 have hn:=predtype_need k
 obtain⟨k2,n2,p2,q2,s2,l2⟩:=x
 simp only[Pd.kind] at *
 have hsp:tyNe k k2=decide (¬resF k2=needF k):=rfl
 generalize tyNe k k2=b at *
 generalize hr0:resF k2=r at *
 generalize hm0:needF k=m at *
 refine PC.enter 11 [.tmp 3] [2] Proofs.Tryz.func129 rfl rfl rfl rfl rfl (by simp) (AWp.of ?_);simp only[go_sem]
 refine AWp.seq ?_
 repeat(first|(with_reducible refine AWp.seq ?_)|(with_reducible refine AWp.block ?_))
 refine AWp.mix mixed [0,1,2,3,4,5,6,7] .done (by kernel_rfl) ?_;simp only[go_sem]
 refine Sd ?_
 refine Gc hr ?_
 refine Sd ?_
 refine Gc hn ?_
 refine Sd ?_
 refine Wk ?_
 refine ret_eq ?_;simp only[go_sem]
 rw[hsp,decide_not]
theorem predtype_typed1 (x:Pd) (hz:szF x≤1000000):PC Proofs.Tryz.prog 128 [aPd x] (ab (typB x)):=by
 obtain⟨k,n,p,q,s,l⟩:=x
 have hll:=szL_len l
 rw[szF] at hz
 have hc:=preds_containsFunc l (by omega) (.clo 129 [.rp 6 [aPd (.mk k n p q s l)] 0 0]) rfl (fun x=>tyNe k x.kind) fun x _=>(predtype_typed11 k n p q s l x).clo
 have hsp:typB (.mk k n p q s l) = !l.any fun x=>tyNe k x.kind:=rfl
 rw[hsp]
 generalize (l.any fun x=>tyNe k x.kind)=b at *
 simp only[aPd_mk] at hc
 refine PC.enter 8 [.tmp 2] [1] Proofs.Tryz.func128 rfl rfl rfl rfl rfl (by simp) (AWp.of ?_);simp only[go_sem]
 refine Wk ?_
 refine Sd ?_
 refine(hc).val.use ?_;simp only[go_sem]
 refine Wk ?_
 refine ret_eq ?_;simp only[go_sem]
theorem predtype_eachC (f:Pd→Bool) (F:FuncId) (cs:List AV) (hg:∀x,szF x≤1000000→PV Proofs.Tryz.prog (.clo F cs) [aPd x] (ab (f x))) (t:Pd):szF t≤1000000→PC Proofs.Tryz.prog 101 [aPd t,.clo F cs] (ab (allB f t)):=by
 induction t using Pd.ind with
 | _ k n p q s l ih =>
 intro hz
 have hsz:szF (.mk k n p q s l)=szL l+1:=by rw[szF]
 have hll:=szL_len l
 have hf:=hg _ hz
 have h1:∀x ∈ l,PV Proofs.Tryz.prog (.clo 153 [.rp 1 [.clo F cs] 0 0]) [aPd x] (ab (!allB f x)):=by
  intro x hx
  have hxi:=szL_mem hx
  have hch:=ih x hx (by omega)
  generalize allB f x=b at *
  obtain⟨k2,n2,p2,q2,s2,l2⟩:=x
  refine PC.clo ?_
  simp only[aPd_mk] at *
  refine PC.enter 8 [.tmp 3] [2] Proofs.Tryz.func153 rfl rfl rfl rfl rfl (by simp) (AWp.of ?_);simp only[go_sem]
  refine Wk ?_
  refine Sd ?_
  refine(hch).val.use ?_;simp only[go_sem]
  refine Wk ?_
  refine ret_eq ?_;simp only[go_sem]
 have hc:=preds_containsFunc l (by omega) _ rfl (fun x => !allB f x) h1
 have hsp:allB f (.mk k n p q s l)=(f (.mk k n p q s l) && !l.any fun x => !allB f x):=by
  rw[allB_mk];congr 1
  rw[List.all_eq_not_any_not]
 rw[hsp]
 generalize f (.mk k n p q s l)=b at *
 generalize (l.any fun x => !allB f x)=c at *
 simp only[aPd_mk] at *
 refine PC.enter 15 [.tmp 4] [2,3] Proofs.Tryz.func101 rfl rfl rfl rfl rfl (by simp) (AWp.of ?_);simp only[go_sem]
 refine Wk ?_
 refine Sd ?_
 refine(hf).use ?_;simp only[go_sem]
 refine Sd ?_
 refine Gc hc ?_
 refine Sd ?_
 refine Wk ?_
 refine ret_eq ?_;simp only[go_sem]
theorem predtype_eachV (f:Pd→Bool) (F:FuncId) (hg:∀x,szF x≤1000000→PV Proofs.Tryz.prog (.v (.func (.func F) #[] #[])) [aPd x] (ab (f x))) (t:Pd):szF t≤1000000→PC Proofs.Tryz.prog 101 [aPd t,.v (.func (.func F) #[] #[])] (ab (allB f t)):=by
 induction t using Pd.ind with
 | _ k n p q s l ih =>
 intro hz
 have hsz:szF (.mk k n p q s l)=szL l+1:=by rw[szF]
 have hll:=szL_len l
 have hf:=hg _ hz
 have h1:∀x ∈ l,PV Proofs.Tryz.prog (.clo 153 [.rp 1 [.v (.func (.func F) #[] #[])] 0 0]) [aPd x] (ab (!allB f x)):=by
  intro x hx
  have hxi:=szL_mem hx
  have hch:=ih x hx (by omega)
  generalize allB f x=b at *
  obtain⟨k2,n2,p2,q2,s2,l2⟩:=x
  refine PC.clo ?_
  simp only[aPd_mk] at *
  refine PC.enter 8 [.tmp 3] [2] Proofs.Tryz.func153 rfl rfl rfl rfl rfl (by simp) (AWp.of ?_);simp only[go_sem]
  refine Wk ?_
  refine Sd ?_
  refine(hch).val.use ?_;simp only[go_sem]
  refine Wk ?_
  refine ret_eq ?_;simp only[go_sem]
 have hc:=preds_containsFunc l (by omega) _ rfl (fun x => !allB f x) h1
 have hsp:allB f (.mk k n p q s l)=(f (.mk k n p q s l) && !l.any fun x => !allB f x):=by
  rw[allB_mk];congr 1
  rw[List.all_eq_not_any_not]
 rw[hsp]
 generalize f (.mk k n p q s l)=b at *
 generalize (l.any fun x => !allB f x)=c at *
 simp only[aPd_mk] at *
 refine PC.enter 15 [.tmp 4] [2,3] Proofs.Tryz.func101 rfl rfl rfl rfl rfl (by simp) (AWp.of ?_);simp only[go_sem]
 refine Wk ?_
 refine Sd ?_
 refine(hf).use ?_;simp only[go_sem]
 refine Sd ?_
 refine Gc hc ?_
 refine Sd ?_
 refine Wk ?_
 refine ret_eq ?_;simp only[go_sem]
def typedB (t:Pd):Bool:=allB typB t
theorem predtype_typed (t:Pd) (hz:szF t≤1000000):PC Proofs.Tryz.prog 87 [aPd t] (ab (typedB t)):=by
 have he:=predtype_eachV typB 128 (fun x hx=>(predtype_typed1 x hx).val) t hz
 unfold typedB
 generalize allB typB t=b at *
 obtain⟨k,n,p,q,s,l⟩:=t
 simp only[aPd_mk] at *
 refine PC.enter 5 [.tmp 2] [1] Proofs.Tryz.func87 rfl rfl rfl rfl rfl (by simp) (AWp.of ?_);simp only[go_sem]
 refine Wk ?_
 refine Sd ?_
 refine(he).val.use ?_;simp only[go_sem]
 refine Wk ?_
 refine ret_eq ?_;simp only[go_sem]
theorem predtype_named (k:Int):PC Proofs.Tryz.prog 164 [ai k] (ab (decide (2≤k∧k≤4))):=by
 generalize hb:decide (2≤k∧k≤4)=b
 refine PC.enter 13 [.tmp 2] [] Proofs.Tryz.func164 rfl rfl rfl rfl rfl (by simp) (AWp.of ?_);simp only[go_sem]
 refine Wk ?_
 refine ret_eq ?_;simp only[go_sem]
 rw[← hb]
 congr 2
 rw[Bool.eq_iff_iff];simp;omega
theorem partsAV_get {k:Int} (h1:1≤k) (h2:k<22):partsAV.getD k.toNat .any=ai (partsF k):=by
 have:k=1∨k=2∨k=3∨k=4∨k=5∨k=6∨k=7∨k=8∨k=9∨k=10∨k=11∨k=12∨k=13∨k=14∨k=15∨k=16∨k=17∨k=18∨k=19∨k=20∨k=21:=by omega
 rcases this with rfl|rfl|rfl|rfl|rfl|rfl|rfl|rfl|rfl|rfl|rfl|rfl|rfl|rfl|rfl|rfl|rfl|rfl|rfl|rfl|rfl <;> rfl
theorem partsAV_len:partsAV.length=22:=rfl
theorem predtype_fits (t:Pd) (hz:szF t≤1000000):PC Proofs.Tryz.prog 123 [aPd t] (ab (locB t)):=by
 obtain⟨k,n,p,q,s,l⟩:=t
 have hll:=szL_len l
 rw[szF] at hz
 have hnm:=predtype_named k
 have hsp:locB (.mk k n p q s l)=(decide (partsF k=l.length) && numB k n && nameB k p q s):=rfl
 have hpg:=@partsAV_get k
 generalize locB (.mk k n p q s l)=b at *
 refine PC.enter 59 [.tmp 2] [1] Proofs.Tryz.func123 rfl rfl rfl rfl rfl (by simp) (AWp.of ?_);simp only[go_sem]
 by_cases k1:k<1
 ·have hk0:partsAV.getD k.toNat .any=ai (-1):=by rw[show k.toNat=0 by omega];rfl
  have hpf:partsF k = -1:=by unfold partsF;rw[if_neg (by omega),if_neg (by omega),if_neg (by omega)]
  refine AWp.seq (AWp.seq ?_)
  repeat(first|(with_reducible refine AWp.seq ?_)|(with_reducible refine AWp.block ?_))
  refine AWp.mix mixed [0,1,2,3,4,5,6,7,8,9,10,11,12,13,14,15,16,17,18,19,20,21,22,23,24,25,26,27,28,29,30,31,32,33,34,35,36,37] .done (by kernel_rfl) ?_;simp only[go_sem,GV,partsAV_len,k1,hk0]
  refine Sd ?_
  refine Wk ?_
  refine ret_eq ?_;simp only[go_sem]
  rw[hsp,hpf,decide_eq_false (by omega)];rfl
 by_cases k2:22≤k
 ·have hk0:partsAV.getD k.toNat .any = .any:=by rw[List.getD_eq_getElem?_getD,List.getElem?_eq_none (by rw[partsAV_len];omega)];rfl
  have hpf:partsF k = -1:=by unfold partsF;rw[if_neg (by omega),if_neg (by omega),if_neg (by omega)]
  refine AWp.seq (AWp.seq ?_)
  repeat(first|(with_reducible refine AWp.seq ?_)|(with_reducible refine AWp.block ?_))
  refine AWp.mix mixed [0,1,2,3,4,5,6,7,8,9,10,11,12,13,14,15,16,17,18,19,20,21,22,23,24,25,26,27,28,29,30,31,32,33,34,35,36,37] .done (by kernel_rfl) ?_;simp only[go_sem,GV,partsAV_len,k1,k2,hk0]
  refine Sd ?_
  refine Wk ?_
  refine ret_eq ?_;simp only[go_sem]
  rw[hsp,hpf,decide_eq_false (by omega)];rfl
 have hpg:=hpg (by omega) (by omega)
 refine AWp.seq (AWp.seq ?_)
 repeat(first|(with_reducible refine AWp.seq ?_)|(with_reducible refine AWp.block ?_))
 refine AWp.mix mixed [0,1,2,3,4,5,6,7,8,9,10,11,12,13,14,15,16,17,18,19,20,21,22,23,24,25,26,27,28,29,30,31,32,33,34,35,36,37] .done (by kernel_rfl) ?_;simp only[go_sem,GV,partsAV_len,k1,k2,hpg]
 refine Sd ?_
 refine Wk ?_
 refine⟨fun h1 => ?_,fun h1 => ?_⟩
 ·refine Wk ?_
  refine ret_eq ?_;simp only[go_sem]
  rw[hsp]
  by_cases e:partsF k=l.length
  ·rw[show numB k n=false by unfold numB;split <;> rw[decide_eq_false (by omega)]];rw[Bool.and_false];rfl
  ·rw[decide_eq_false e];rfl
 intro h2 h3 h4
 have hnu:numB k n=true:=by
  unfold numB
  split
  ·rw[decide_eq_true (by omega)]
  ·rename_i e
   rw[decide_eq_true];exact Classical.byContradiction fun hc=>e (h4 hc)
 rw[decide_eq_true h1.symm,hnu,Bool.true_and,Bool.true_and] at hsp
 refine Wk ?_
 refine Sd ?_
 refine(hnm).val.use ?_;simp only[go_sem]
 refine Wk ?_
 refine ret_eq ?_;simp only[go_sem]
 rw[hsp]
 unfold nameB
 congr 2
 rw[Bool.eq_iff_iff]
 simp only[Bool.or_eq_true,Bool.and_eq_true,decide_eq_true_iff]
 rw[and_assoc];rfl
mutual
def walkF:Pd→Int→Int→Bool × Int
 | .mk k n p q s l,d,c=>if c - 1<0∨20<d∨locB (.mk k n p q s l)=false then (false,c - 1) else walkL l (d+1) (c - 1)
def walkL:List Pd→Int→Int→Bool × Int
 | [],_,c=>(true,c)
 | x :: r,d,c=>if (walkF x d c).1 then walkL r d (walkF x d c).2 else (false,(walkF x d c).2)
end
def stepW (d:Int) (x:Pd) (c:Int):Bool × Int:=(!(walkF x d c).1,(walkF x d c).2)
theorem findS_walk (d:Int):∀(l:List Pd) (c:Int),(findS (stepW d) l c).1.isSome = !(walkL l d c).1∧(findS (stepW d) l c).2=(walkL l d c).2
 | [],c=>by rw[walkL,findS];exact⟨rfl,rfl⟩
 | x :: r,c=>by
  rw[walkL,findS]
  by_cases h:(walkF x d c).1=true
  ·have ih:=findS_walk d r (walkF x d c).2
   rw[if_pos h,if_neg (by simp [stepW,h])]
   exact⟨by rw[← ih.1];simp [stepW],ih.2⟩
  ·rw[if_neg h,if_pos (by simp [stepW,h])]
   exact⟨rfl,rfl⟩
theorem walkF_spec (t:Pd):∀d c:Int,0≤c→((walkF t d c).1=true↔(szF t:Int)≤c∧d+dpF t≤21∧allB locB t=true)∧((walkF t d c).1=true→(walkF t d c).2=c - szF t):=by
 induction t using Pd.ind with
 | _ k n p q s l ih =>
 intro d c hc
 have hL:∀(l':List Pd),(∀x ∈ l',x ∈ l)→∀c:Int,0≤c→((walkL l' (d+1) c).1=true↔(szL l':Int)≤c∧(∀x ∈ l',d+1+dpF x≤21)∧l'.all (allB locB)=true)∧((walkL l' (d+1) c).1=true→(walkL l' (d+1) c).2=c - szL l'):=by
  intro l'
  induction l' with
  | nil=>intro _ c hc;rw[walkL,szL];exact⟨⟨fun _=>⟨by simpa using hc,by simp,rfl⟩,fun _=>rfl⟩,fun _=>by simp⟩
  | cons x r ihr =>
   intro hm c hc
   obtain⟨i1,i2⟩:=ih x (hm x List.mem_cons_self) (d+1) c hc
   rw[walkL,szL,List.all_cons]
   by_cases h:(walkF x (d+1) c).1=true
   ·have e2:=i2 h
    obtain⟨j1,j2,j3⟩:=i1.1 h
    obtain⟨r1,r2⟩:=ihr (fun y hy=>hm y (List.mem_cons_of_mem _ hy)) (walkF x (d+1) c).2 (by omega)
    rw[if_pos h]
    refine⟨r1.trans (Iff.intro ?_ ?_),fun h2=>by rw[r2 h2,e2];omega⟩
    ·rintro⟨a1,a2,a3⟩
     refine⟨by omega,fun y hy => ?_,by rw[j3,a3];rfl⟩
     rcases List.mem_cons.1 hy with rfl|hy
     ·exact j2
     ·exact a2 y hy
    ·rintro⟨a1,a2,a3⟩
     rw[j3] at a3
     exact⟨by omega,fun y hy=>a2 y (List.mem_cons_of_mem _ hy),a3⟩
   ·rw[if_neg h]
    refine⟨Iff.intro (fun h2=>by cases h2) ?_,fun h2=>by cases h2⟩
    rintro⟨a1,a2,a3⟩
    rw[Bool.and_eq_true] at a3
    exact absurd (i1.2 ⟨by omega,a2 x List.mem_cons_self,a3.1⟩) h
 have hdl:∀l':List Pd,(∀x ∈ l',d+1+dpF x≤21)∧d≤20↔d+((dpL l'+1:Nat):Int)≤21:=by
  intro l'
  induction l' with
  | nil=>rw[dpL];constructor
         ·rintro⟨_,h⟩;omega
         ·intro h;exact⟨by simp,by omega⟩
  | cons x r ihr =>
   rw[dpL]
   constructor
   ·rintro⟨h1,h2⟩
    have:=ihr.1 ⟨fun y hy=>h1 y (List.mem_cons_of_mem _ hy),h2⟩
    have:=h1 x List.mem_cons_self
    omega
   ·intro h
    have:=ihr.2 (by omega)
    refine⟨fun y hy => ?_,this.2⟩
    rcases List.mem_cons.1 hy with rfl|hy
    ·omega
    ·exact this.1 y hy
 have hd:=hdl l
 rw[walkF,szF,dpF,allB_mk]
 by_cases h:c - 1<0∨20<d∨locB (.mk k n p q s l)=false
 ·rw[if_pos h]
  refine⟨Iff.intro (fun h=>by cases h) ?_,fun h=>by cases h⟩
  rintro⟨a1,a2,a3⟩
  have:=hd.2 a2
  rw[Bool.and_eq_true] at a3
  rcases h with h|h|h
  ·omega
  ·omega
  ·rw[h] at a3;cases a3.1
 ·rw[if_neg h]
  obtain⟨w1,w2⟩:=hL l (fun _ h=>h) (c - 1) (by omega)
  have hlo:locB (.mk k n p q s l)=true:=by
   cases e:locB (.mk k n p q s l)
   ·exact absurd (Or.inr (Or.inr e)) h
   ·rfl
  rw[hlo,Bool.true_and]
  refine⟨w1.trans (Iff.intro ?_ ?_),fun h=>by rw[w2 h];omega⟩
  ·rintro⟨a1,a2,a3⟩
   exact⟨by omega,hd.1 ⟨a2,by omega⟩,a3⟩
  ·rintro⟨a1,a2,a3⟩
   exact⟨by omega,(hd.2 a2).1,a3⟩
theorem walkF_formed (t:Pd):(walkF t 1 200).1=formedB t:=by
 rw[Bool.eq_iff_iff,(walkF_spec t 1 200 (by decide)).1]
 unfold formedB
 simp only[Bool.and_eq_true,decide_eq_true_iff,and_assoc]
 exact⟨fun ⟨a,b,c⟩=>⟨by omega,by omega,c⟩,fun ⟨a,b,c⟩=>⟨by omega,by omega,c⟩⟩
def aWalk (bl bw:Nat):AV:=.clo 122 [.lp bl 1 0 0,.lp bw 1 0 0]
def LwPd (bl bw:Nat) (c:Int):AHeap:=[(bw,.row 112 1 [aWalk bl bw] 1),(bl,.row 3 1 [ai c] 1)]
theorem stepW_inv {d:Int} {x:Pd} {c:Int} (h0:0≤c) (h:(stepW d x c).1=false):0≤(stepW d x c).2∧(stepW d x c).2≤c:=by
 have h1:(walkF x d c).1=true:=by simpa [stepW] using h
 obtain⟨w1,w2⟩:=walkF_spec x d c h0
 have:=w2 h1
 have:=w1.1 h1
 show 0≤(walkF x d c).2∧(walkF x d c).2≤c
 omega
theorem predtype_formed1 (bl bw:Nat) (hb:¬bl=bw) (t:Pd):szF t≤1000000→∀d c:Int,0≤d→d≤21→0≤c→c≤200 →
  MCalls Proofs.Tryz.prog 122 [aPd t,ai d,.lp bl 1 0 0,.lp bw 1 0 0] (LwPd bl bw c) fun r L=>r=ab (walkF t d c).1∧L=LwPd bl bw (walkF t d c).2:=by
 induction t using Pd.ind with
 | _ k n p q s l ih =>
 intro hz d c d0 d1 c0 c1
 have hsz:szF (.mk k n p q s l)=szL l+1:=by rw[szF]
 have hll:=szL_len l
 have hb':¬bw=bl:=fun e=>hb e.symm
 have hft:=predtype_fits _ hz
 have hkid:d≤20→∀x ∈ l,∀c':Int,0≤c'∧c'≤200→MVal Proofs.Tryz.prog (.clo 124 [.lp bw 1 0 0,.rp 1 [ai d] 0 0]) [aPd x] (LwPd bl bw c') fun r L=>r=ab (stepW (d+1) x c').1∧L=LwPd bl bw (stepW (d+1) x c').2:=by
  intro hd x hx c' hc'
  have hxi:=szL_mem hx
  have hch:=ih x hx (by omega) (d+1) c' (by omega) (by omega) hc'.1 hc'.2
  have e1:(stepW (d+1) x c').1 = !(walkF x (d+1) c').1:=rfl
  have e2:(stepW (d+1) x c').2=(walkF x (d+1) c').2:=rfl
  rw[e1,e2]
  generalize walkF x (d+1) c'=w at *
  obtain⟨k2,n2,p2,q2,s2,l2⟩:=x
  refine MCalls.clo ?_
  unfold LwPd aWalk at *
  simp only[aPd_mk] at *
  refine MCalls.enter' 11 [.tmp 4] [3] Proofs.Tryz.func124 rfl rfl rfl rfl rfl (by simp) (AWp.of ?_);simp only[go_sem]
  refine W1 hb' ?_
  refine Sd ?_
  refine(MCalls.clo hch).mono ?_
  rintro r L ⟨rfl,rfl⟩
  simp only[go_sem]
  refine Wk ?_
  refine ret_own ?_
  simp only[go_sem]
 have hsp:walkF (.mk k n p q s l) d c=if c - 1<0∨20<d∨locB (.mk k n p q s l)=false then (false,c - 1) else walkL l (d+1) (c - 1):=by rw[walkF]
 have hcs:d≤20→0≤c - 1→_:=fun h1 h2=>preds_containsS (stepW (d+1)) (LwPd bl bw) (fun c=>0≤c∧c≤200) l (by omega) (.clo 124 [.lp bw 1 0 0,.rp 1 [ai d] 0 0]) rfl (hkid h1) (fun x hx c' hc' h=>by have:=stepW_inv hc'.1 h;omega) (c - 1) (by omega)
 obtain⟨f1,f2⟩:=findS_walk (d+1) l (c - 1)
 rw[f1,f2] at hcs
 generalize walkL l (d+1) (c - 1)=w at *
 generalize locB (.mk k n p q s l)=b at *
 generalize walkF (.mk k n p q s l) d c=z at *
 unfold LwPd aWalk at *
 simp only[aPd_mk] at *
 refine MCalls.enter' 25 [.tmp 6] [4,5] Proofs.Tryz.func122 rfl rfl rfl rfl rfl (by simp) (AWp.of ?_);simp only[go_sem]
 refine W1 hb ?_
 refine Sd ?_
 refine Gc hft ?_
 refine Sd ?_
 refine Wk ?_
 refine⟨fun h1 => ?_,fun h1 => ?_⟩
 ·have hz':z=(false,c - 1):=by
   rw[hsp,if_pos]
   rcases h1 with (h1|h1)|h1
   ·exact .inl h1
   ·exact .inr (.inl h1)
   ·exact .inr (.inr (by simpa using h1))
  refine Wk ?_
  refine ret_own ?_
  simp only[go_sem]
  rw[hz'];exact⟨rfl,rfl⟩
 intro h2 h3
 have hz':z=w:=by rw[hsp,if_neg];rintro(h|h|h);exact h1 h;exact h2 h;rw[h3] at h;cases h
 have hcs:=hcs (by omega) (by omega)
 refine W1 hb' ?_
 refine Sd ?_
 refine hcs.val.mono ?_
 rintro r L ⟨rfl,rfl⟩
 simp only[go_sem]
 refine Wk ?_
 refine ret_own ?_
 simp only[go_sem]
 rw[hz'];exact⟨rfl,rfl⟩
theorem predtype_formed (t:Pd) (hz:szF t≤1000000):PC Proofs.Tryz.prog 85 [aPd t] (ab (formedB t)):=by
 rw[← walkF_formed]
 have hw:=fun bl bw hb=>predtype_formed1 bl bw hb t hz 1 200 (by decide) (by decide) (by decide) (by decide)
 unfold LwPd aWalk at hw
 generalize walkF t 1 200=w at *
 obtain⟨k,n,p,q,s,l⟩:=t
 simp only[aPd_mk] at *
 refine PC.enter 9 [.tmp 2] [1] Proofs.Tryz.func85 rfl rfl rfl rfl rfl (by simp) (AWp.of ?_);simp only[go_sem]
 refine Wk ?_
 intro bl
 refine Wk ?_
 intro bw hlt
 have hb:¬bw=bl:=by omega
 have hb':¬bl=bw:=by omega
 refine W1 hb ?_
 refine Sd ?_
 refine(MCalls.clo (hw bl bw hb')).mono ?_
 rintro r L ⟨rfl,rfl⟩
 simp only[go_sem]
 refine Wk ?_
 refine ret_eq ?_;simp only[go_sem]
theorem predtype_TypeX (t:Pd) (hz:szF t≤1000000):PC Proofs.Tryz.prog 100 [aPd t] (.tup [ai (if formedB t=false then 0 else if typedB t=false then 0 else resF t.kind),ai (if formedB t=false then 1 else if typedB t=false then 14 else 0)]):=by
 have hf:=predtype_formed t hz
 have ht:=predtype_typed t hz
 have hr:=predtype_result t.kind
 generalize formedB t=f at *
 generalize typedB t=y at *
 obtain⟨k,n,p,q,s,l⟩:=t
 simp only[aPd_mk,Pd.kind] at *
 generalize resF k=r at *
 refine PC.enter 15 [.tmp 2,.tmp 3] [1] Proofs.Tryz.func100 rfl rfl rfl rfl rfl (by simp) (AWp.of ?_);simp only[go_sem]
 refine Wk ?_
 refine Sd ?_
 refine(hf).val.use ?_;simp only[go_sem]
 refine Wk ?_
 refine⟨fun h1 => ?_,fun h1 => ?_⟩
 ·refine Wk ?_
  refine ret_eq ?_;simp only[go_sem]
  simp [h1]
 refine Wk ?_
 refine Sd ?_
 refine(ht).val.use ?_;simp only[go_sem]
 refine Wk ?_
 refine⟨fun h2 => ?_,fun h2 => ?_⟩
 ·refine Wk ?_
  refine ret_eq ?_;simp only[go_sem]
  simp [h1,h2]
 refine Wk ?_
 refine Sd ?_
 refine(hr).val.use ?_;simp only[go_sem]
 refine Wk ?_
 refine ret_eq ?_;simp only[go_sem]
 simp [h1,h2]
mutual
def rwF (c:List Int):Pd→Pd
 | .mk k n p q s l=>if k=3 then .mk 6 0 0 0 ByteArray.empty [.mk k n p q s l,.mk 1 (c.getD p.toNat 0) 0 0 ByteArray.empty []] else .mk k n p q s (rwL c l)
def rwL (c:List Int):List Pd→List Pd
 | []=>[]
 | x :: r=>rwF c x :: rwL c r
end
def aPd0:AV:=.agg [ai 0,ai 0,ai 0,ai 0,astr ByteArray.empty,anil]
theorem ints_cloneO (l:List Int) (hl:l.length≤1000000):MCalls Proofs.Tryz.prog 184 [aInts l] [] fun r L=>AppSt 3 1 (l.map ai) r L:=by
 refine MCalls.enter' 8 [.tmp 2] [] Proofs.Tryz.func184 rfl rfl rfl rfl rfl (by simp) (AWp.of ?_);simp only[go_sem]
 refine Wk ?_
 intro b hb
 refine Wk ?_
 refine⟨fun ht => ?_,fun hf => ?_⟩
 ·have:l=[]:=by
   by_cases h:l=[]
   ·exact h
   ·rw[hb (by simpa using h)] at ht;cases ht
  subst this
  refine Wk ?_
  refine ret_own ?_
  simp only[go_sem]
  exact .nil
 ·refine Wk ?_
  intros
  refine Sd ?_
  intros
  refine Wk ?_
  refine ret_own ?_
  simp only[go_sem]
  have e:l.length=(l.map ai).length:=by simp
  rw[e];exact .row _ _ _
theorem rows_indexFunc (l:List (List Int)) (hl:l.length≤1000000) (g:AV) (hgf:fo g=(True,g)) (p:(List Int)→Bool) (hg:∀x ∈ l,PV Proofs.Tryz.prog g [aInts x] (ab (p x))) :
  PC Proofs.Tryz.prog 212 [aRows l,g] (ai (match l.findIdx? p with|some i=>(i:Int)|none => -1)):=by
 refine PC.enter 19 [.tmp 4] [] Proofs.Tryz.func212 rfl rfl rfl rfl rfl (by simp) (AWp.of ?_);simp only[go_sem]
 refine Sd ?_
 refine AWp.of ?_;simp only[go_sem,aRows]
 refine AWp.range' l.length [] [0,1,7] (fun k vs L=>L=[]∧∀i (h:i<l.length),i<k→p l[i]=false) (by omega) rfl rfl rfl ⟨rfl,by omega⟩ ?_ ?_
 ·rintro k vs L' hk hvs ⟨rfl,hI⟩
  simp only[go_sem]
  refine Sd ?_
  refine AWp.of ?_;simp only[go_sem]
  have hgk:=hg l[k] (List.getElem_mem hk)
  try simp only[go_sem,aInts] at hgk
  refine Sd ?_
  refine AWp.of ?_;simp only[go_sem,getD_map hk,hgf,aInts]
  refine⟨⟨by omega,by omega⟩,hk,hgk.use (AWp.of ?_)⟩;simp only[go_sem]
  refine⟨fun ht => ?_,fun hf => ?_⟩
  ·refine Sd ?_
   refine AWp.of ?_;simp only[go_sem]
   refine ret_eq ?_;simp only[go_sem]
   have:l.findIdx? p=some k:=by rw[List.findIdx?_eq_some_iff_getElem];exact⟨hk,ht,fun j hj=>by simpa using hI j (by omega) hj⟩
   rw[this]
  ·refine⟨[],List.Sublist.refl _,rfl,fun i h hi => ?_⟩
   by_cases e:i=k
   ·subst e;exact hf
   ·exact hI i h (by omega)
 ·rintro vs L' hvs ⟨rfl,hI⟩
  simp only[go_sem]
  refine Sd ?_
  refine AWp.of ?_;simp only[go_sem]
  refine Sd ?_
  refine AWp.of ?_;simp only[go_sem]
  refine ret_eq ?_;simp only[go_sem]
  have:l.findIdx? p=none:=by rw[List.findIdx?_eq_none_iff];intro x hx;obtain⟨i,hi,rfl⟩:=List.getElem_of_mem hx;exact hI i hi hi
  rw[this]
theorem rows_containsFunc (l:List (List Int)) (hl:l.length≤1000000) (g:AV) (hgf:fo g=(True,g)) (p:(List Int)→Bool) (hg:∀x ∈ l,PV Proofs.Tryz.prog g [aInts x] (ab (p x))) :
  PC Proofs.Tryz.prog 202 [aRows l,g] (ab (l.any p)):=by
 refine PC.enter 9 [.tmp 4] [] Proofs.Tryz.func202 rfl rfl rfl rfl rfl (by simp) (AWp.of ?_);simp only[go_sem]
 refine Sd ?_
 refine AWp.of ?_;simp only[go_sem,hgf,aRows]
 refine(rows_indexFunc l hl g hgf p hg).val.use ?_
 simp only[go_sem]
 refine Sd ?_
 refine AWp.of ?_;simp only[go_sem]
 refine ret_eq ?_;simp only[go_sem]
 congr 2;exact findIdx_any l p
theorem procs_indexFunc (l:List Pr) (hl:l.length≤1000000) (g:AV) (hgf:fo g=(True,g)) (p:Pr→Bool) (hg:∀x ∈ l,PV Proofs.Tryz.prog g [aPr x] (ab (p x))) :
  PC Proofs.Tryz.prog 207 [aPrs l,g] (ai (match l.findIdx? p with|some i=>(i:Int)|none => -1)):=by
 refine PC.enter 19 [.tmp 4] [] Proofs.Tryz.func207 rfl rfl rfl rfl rfl (by simp) (AWp.of ?_);simp only[go_sem]
 refine Sd ?_
 refine AWp.of ?_;simp only[go_sem,aPrs]
 refine AWp.range' l.length [] [0,1,7] (fun k vs L=>L=[]∧∀i (h:i<l.length),i<k→p l[i]=false) (by omega) rfl rfl rfl ⟨rfl,by omega⟩ ?_ ?_
 ·rintro k vs L' hk hvs ⟨rfl,hI⟩
  simp only[go_sem]
  refine Sd ?_
  refine AWp.of ?_;simp only[go_sem]
  have hgk:=hg l[k] (List.getElem_mem hk)
  try simp only[go_sem,aPr] at hgk
  refine Sd ?_
  refine AWp.of ?_;simp only[go_sem,getD_map hk,hgf,aPr]
  refine⟨⟨by omega,by omega⟩,hk,hgk.use (AWp.of ?_)⟩;simp only[go_sem]
  refine⟨fun ht => ?_,fun hf => ?_⟩
  ·refine Sd ?_
   refine AWp.of ?_;simp only[go_sem]
   refine ret_eq ?_;simp only[go_sem]
   have:l.findIdx? p=some k:=by rw[List.findIdx?_eq_some_iff_getElem];exact⟨hk,ht,fun j hj=>by simpa using hI j (by omega) hj⟩
   rw[this]
  ·refine⟨[],List.Sublist.refl _,rfl,fun i h hi => ?_⟩
   by_cases e:i=k
   ·subst e;exact hf
   ·exact hI i h (by omega)
 ·rintro vs L' hvs ⟨rfl,hI⟩
  simp only[go_sem]
  refine Sd ?_
  refine AWp.of ?_;simp only[go_sem]
  refine Sd ?_
  refine AWp.of ?_;simp only[go_sem]
  refine ret_eq ?_;simp only[go_sem]
  have:l.findIdx? p=none:=by rw[List.findIdx?_eq_none_iff];intro x hx;obtain⟨i,hi,rfl⟩:=List.getElem_of_mem hx;exact hI i hi hi
  rw[this]
theorem procs_containsFunc (l:List Pr) (hl:l.length≤1000000) (g:AV) (hgf:fo g=(True,g)) (p:Pr→Bool) (hg:∀x ∈ l,PV Proofs.Tryz.prog g [aPr x] (ab (p x))) :
  PC Proofs.Tryz.prog 187 [aPrs l,g] (ab (l.any p)):=by
 refine PC.enter 9 [.tmp 4] [] Proofs.Tryz.func187 rfl rfl rfl rfl rfl (by simp) (AWp.of ?_);simp only[go_sem]
 refine Sd ?_
 refine AWp.of ?_;simp only[go_sem,hgf,aPrs]
 refine(procs_indexFunc l hl g hgf p hg).val.use ?_
 simp only[go_sem]
 refine Sd ?_
 refine AWp.of ?_;simp only[go_sem]
 refine ret_eq ?_;simp only[go_sem]
 congr 2;exact findIdx_any l p
theorem events_indexFunc (l:List Ev) (hl:l.length≤1000000) (g:AV) (hgf:fo g=(True,g)) (p:Ev→Bool) (hg:∀x ∈ l,PV Proofs.Tryz.prog g [aEv x] (ab (p x))) :
  PC Proofs.Tryz.prog 42 [aEvs l,g] (ai (match l.findIdx? p with|some i=>(i:Int)|none => -1)):=by
 refine PC.enter 19 [.tmp 4] [] Proofs.Tryz.func42 rfl rfl rfl rfl rfl (by simp) (AWp.of ?_);simp only[go_sem]
 refine Sd ?_
 refine AWp.of ?_;simp only[go_sem,aEvs]
 refine AWp.range' l.length [] [0,1,7] (fun k vs L=>L=[]∧∀i (h:i<l.length),i<k→p l[i]=false) (by omega) rfl rfl rfl ⟨rfl,by omega⟩ ?_ ?_
 ·rintro k vs L' hk hvs ⟨rfl,hI⟩
  simp only[go_sem]
  refine Sd ?_
  refine AWp.of ?_;simp only[go_sem]
  have hgk:=hg l[k] (List.getElem_mem hk)
  try simp only[go_sem,aEv] at hgk
  refine Sd ?_
  refine AWp.of ?_;simp only[go_sem,getD_map hk,hgf,aEv]
  refine⟨⟨by omega,by omega⟩,hk,hgk.use (AWp.of ?_)⟩;simp only[go_sem]
  refine⟨fun ht => ?_,fun hf => ?_⟩
  ·refine Sd ?_
   refine AWp.of ?_;simp only[go_sem]
   refine ret_eq ?_;simp only[go_sem]
   have:l.findIdx? p=some k:=by rw[List.findIdx?_eq_some_iff_getElem];exact⟨hk,ht,fun j hj=>by simpa using hI j (by omega) hj⟩
   rw[this]
  ·refine⟨[],List.Sublist.refl _,rfl,fun i h hi => ?_⟩
   by_cases e:i=k
   ·subst e;exact hf
   ·exact hI i h (by omega)
 ·rintro vs L' hvs ⟨rfl,hI⟩
  simp only[go_sem]
  refine Sd ?_
  refine AWp.of ?_;simp only[go_sem]
  refine Sd ?_
  refine AWp.of ?_;simp only[go_sem]
  refine ret_eq ?_;simp only[go_sem]
  have:l.findIdx? p=none:=by rw[List.findIdx?_eq_none_iff];intro x hx;obtain⟨i,hi,rfl⟩:=List.getElem_of_mem hx;exact hI i hi hi
  rw[this]
theorem events_containsFunc (l:List Ev) (hl:l.length≤1000000) (g:AV) (hgf:fo g=(True,g)) (p:Ev→Bool) (hg:∀x ∈ l,PV Proofs.Tryz.prog g [aEv x] (ab (p x))) :
  PC Proofs.Tryz.prog 15 [aEvs l,g] (ab (l.any p)):=by
 refine PC.enter 9 [.tmp 4] [] Proofs.Tryz.func15 rfl rfl rfl rfl rfl (by simp) (AWp.of ?_);simp only[go_sem]
 refine Sd ?_
 refine AWp.of ?_;simp only[go_sem,hgf,aEvs]
 refine(events_indexFunc l hl g hgf p hg).val.use ?_
 simp only[go_sem]
 refine Sd ?_
 refine AWp.of ?_;simp only[go_sem]
 refine ret_eq ?_;simp only[go_sem]
 congr 2;exact findIdx_any l p
theorem vars_indexFunc (l:List (ByteArray × Int)) (hl:l.length≤1000000) (g:AV) (hgf:fo g=(True,g)) (p:(ByteArray × Int)→Bool) (hg:∀x ∈ l,PV Proofs.Tryz.prog g [aVar x] (ab (p x))) :
  PC Proofs.Tryz.prog 43 [aVars l,g] (ai (match l.findIdx? p with|some i=>(i:Int)|none => -1)):=by
 refine PC.enter 19 [.tmp 4] [] Proofs.Tryz.func43 rfl rfl rfl rfl rfl (by simp) (AWp.of ?_);simp only[go_sem]
 refine Sd ?_
 refine AWp.of ?_;simp only[go_sem,aVars]
 refine AWp.range' l.length [] [0,1,7] (fun k vs L=>L=[]∧∀i (h:i<l.length),i<k→p l[i]=false) (by omega) rfl rfl rfl ⟨rfl,by omega⟩ ?_ ?_
 ·rintro k vs L' hk hvs ⟨rfl,hI⟩
  simp only[go_sem]
  refine Sd ?_
  refine AWp.of ?_;simp only[go_sem]
  have hgk:=hg l[k] (List.getElem_mem hk)
  try simp only[go_sem,aVar] at hgk
  refine Sd ?_
  refine AWp.of ?_;simp only[go_sem,getD_map hk,hgf,aVar]
  refine⟨⟨by omega,by omega⟩,hk,hgk.use (AWp.of ?_)⟩;simp only[go_sem]
  refine⟨fun ht => ?_,fun hf => ?_⟩
  ·refine Sd ?_
   refine AWp.of ?_;simp only[go_sem]
   refine ret_eq ?_;simp only[go_sem]
   have:l.findIdx? p=some k:=by rw[List.findIdx?_eq_some_iff_getElem];exact⟨hk,ht,fun j hj=>by simpa using hI j (by omega) hj⟩
   rw[this]
  ·refine⟨[],List.Sublist.refl _,rfl,fun i h hi => ?_⟩
   by_cases e:i=k
   ·subst e;exact hf
   ·exact hI i h (by omega)
 ·rintro vs L' hvs ⟨rfl,hI⟩
  simp only[go_sem]
  refine Sd ?_
  refine AWp.of ?_;simp only[go_sem]
  refine Sd ?_
  refine AWp.of ?_;simp only[go_sem]
  refine ret_eq ?_;simp only[go_sem]
  have:l.findIdx? p=none:=by rw[List.findIdx?_eq_none_iff];intro x hx;obtain⟨i,hi,rfl⟩:=List.getElem_of_mem hx;exact hI i hi hi
  rw[this]
theorem vars_containsFunc (l:List (ByteArray × Int)) (hl:l.length≤1000000) (g:AV) (hgf:fo g=(True,g)) (p:(ByteArray × Int)→Bool) (hg:∀x ∈ l,PV Proofs.Tryz.prog g [aVar x] (ab (p x))) :
  PC Proofs.Tryz.prog 17 [aVars l,g] (ab (l.any p)):=by
 refine PC.enter 9 [.tmp 4] [] Proofs.Tryz.func17 rfl rfl rfl rfl rfl (by simp) (AWp.of ?_);simp only[go_sem]
 refine Sd ?_
 refine AWp.of ?_;simp only[go_sem,hgf,aVars]
 refine(vars_indexFunc l hl g hgf p hg).val.use ?_
 simp only[go_sem]
 refine Sd ?_
 refine AWp.of ?_;simp only[go_sem]
 refine ret_eq ?_;simp only[go_sem]
 congr 2;exact findIdx_any l p
theorem asgs_indexFunc (l:List (Int × Int)) (hl:l.length≤1000000) (g:AV) (hgf:fo g=(True,g)) (p:(Int × Int)→Bool) (hg:∀x ∈ l,PV Proofs.Tryz.prog g [aAsg x] (ab (p x))) :
  PC Proofs.Tryz.prog 208 [aAsgs l,g] (ai (match l.findIdx? p with|some i=>(i:Int)|none => -1)):=by
 refine PC.enter 19 [.tmp 4] [] Proofs.Tryz.func208 rfl rfl rfl rfl rfl (by simp) (AWp.of ?_);simp only[go_sem]
 refine Sd ?_
 refine AWp.of ?_;simp only[go_sem,aAsgs]
 refine AWp.range' l.length [] [0,1,7] (fun k vs L=>L=[]∧∀i (h:i<l.length),i<k→p l[i]=false) (by omega) rfl rfl rfl ⟨rfl,by omega⟩ ?_ ?_
 ·rintro k vs L' hk hvs ⟨rfl,hI⟩
  simp only[go_sem]
  refine Sd ?_
  refine AWp.of ?_;simp only[go_sem]
  have hgk:=hg l[k] (List.getElem_mem hk)
  try simp only[go_sem,aAsg] at hgk
  refine Sd ?_
  refine AWp.of ?_;simp only[go_sem,getD_map hk,hgf,aAsg]
  refine⟨⟨by omega,by omega⟩,hk,hgk.use (AWp.of ?_)⟩;simp only[go_sem]
  refine⟨fun ht => ?_,fun hf => ?_⟩
  ·refine Sd ?_
   refine AWp.of ?_;simp only[go_sem]
   refine ret_eq ?_;simp only[go_sem]
   have:l.findIdx? p=some k:=by rw[List.findIdx?_eq_some_iff_getElem];exact⟨hk,ht,fun j hj=>by simpa using hI j (by omega) hj⟩
   rw[this]
  ·refine⟨[],List.Sublist.refl _,rfl,fun i h hi => ?_⟩
   by_cases e:i=k
   ·subst e;exact hf
   ·exact hI i h (by omega)
 ·rintro vs L' hvs ⟨rfl,hI⟩
  simp only[go_sem]
  refine Sd ?_
  refine AWp.of ?_;simp only[go_sem]
  refine Sd ?_
  refine AWp.of ?_;simp only[go_sem]
  refine ret_eq ?_;simp only[go_sem]
  have:l.findIdx? p=none:=by rw[List.findIdx?_eq_none_iff];intro x hx;obtain⟨i,hi,rfl⟩:=List.getElem_of_mem hx;exact hI i hi hi
  rw[this]
theorem asgs_containsFunc (l:List (Int × Int)) (hl:l.length≤1000000) (g:AV) (hgf:fo g=(True,g)) (p:(Int × Int)→Bool) (hg:∀x ∈ l,PV Proofs.Tryz.prog g [aAsg x] (ab (p x))) :
  PC Proofs.Tryz.prog 192 [aAsgs l,g] (ab (l.any p)):=by
 refine PC.enter 9 [.tmp 4] [] Proofs.Tryz.func192 rfl rfl rfl rfl rfl (by simp) (AWp.of ?_);simp only[go_sem]
 refine Sd ?_
 refine AWp.of ?_;simp only[go_sem,hgf,aAsgs]
 refine(asgs_indexFunc l hl g hgf p hg).val.use ?_
 simp only[go_sem]
 refine Sd ?_
 refine AWp.of ?_;simp only[go_sem]
 refine ret_eq ?_;simp only[go_sem]
 congr 2;exact findIdx_any l p
def nmB (s:ByteArray) (v:ByteArray × Int):Bool:=decide (v.1=s)
def varIx (vs:List (ByteArray × Int)) (s:ByteArray):Int:=match vs.findIdx? (nmB s) with|some i=>i|none => -1
def isPB (n:Nat) (p:Int):Bool:=decide (0≤p) && decide (p<n)
def knownB (ps:List Pr) (p:Int) (s:ByteArray):Bool:=match ps[p.toNat]? with|some x=>x.vars.any (nmB s)|none=>false
def resB (ps:List Pr):Pd→Bool
 | .mk k _ p q s _=>if k=2 then isPB ps.length p && decide (q=0) && knownB ps p s else if k=3 then isPB ps.length p && decide (q=0) && decide (s=ByteArray.empty) else
  if k=4 then isPB ps.length p && isPB ps.length q && !decide (p=q) && decide (s=ByteArray.empty) else true
theorem predtype_isProc (ps:List Pr) (p:Int):PC Proofs.Tryz.prog 126 [aTr ps,ai p] (ab (isPB ps.length p)):=by
 generalize hb:isPB ps.length p=b
 refine PC.enter 14 [.tmp 4] [2] Proofs.Tryz.func126 rfl rfl rfl rfl rfl (by simp) (AWp.of ?_);simp only[go_sem]
 refine Wk ?_
 refine ret_eq ?_;simp only[go_sem]
 rw[← hb];rfl
theorem predtype_known1 (v:ByteArray × Int) (s:ByteArray):PC Proofs.Tryz.prog 165 [aVar v,.rp 1 [astr s] 0 0] (ab (nmB s v)):=by
 generalize hb:nmB s v=b
 refine PC.enter 8 [.tmp 3] [2] Proofs.Tryz.func165 rfl rfl rfl rfl rfl (by simp) (AWp.of ?_);simp only[go_sem]
 refine Wk ?_
 refine ret_eq ?_;simp only[go_sem]
 rw[← hb];rfl
theorem isPB_nat {n:Nat} {p:Int} (h:isPB n p=true):∃i:Nat,p=i∧i<n:=by
 unfold isPB at h;simp only[Bool.and_eq_true,decide_eq_true_eq] at h
 exact⟨p.toNat,by omega,by omega⟩
theorem predtype_known (ps:List Pr) (hs:Sm ps) (p:Int) (hpb:isPB ps.length p=true) (s:ByteArray):PC Proofs.Tryz.prog 127 [aTr ps,ai p,astr s] (ab (knownB ps p s)):=by
 obtain⟨p,rfl,hp⟩:=isPB_nat hpb
 have hm:=List.getElem_mem hp
 have hc:=vars_containsFunc ps[p].vars (hs.vars _ hm) (.clo 165 [.rp 1 [astr s] 0 0]) rfl (nmB s) fun v _=>(predtype_known1 v s).clo
 have hk:knownB ps p s=ps[p].vars.any (nmB s):=by unfold knownB;simp only[Int.toNat_natCast,List.getElem?_eq_getElem hp]
 have hgp:=getD_map (f:=aPr) hp
 rw[hk]
 generalize ps[p].vars.any (nmB s)=b at *
 refine PC.enter 15 [.tmp 6] [3,5] Proofs.Tryz.func127 rfl rfl rfl rfl rfl (by simp) (AWp.of ?_);simp only[go_sem]
 refine W1 hgp ?_
 refine Sd ?_
 refine(hc).val.use ?_;simp only[go_sem]
 refine Wk ?_
 refine ret_eq ?_;simp only[go_sem]
theorem predtype_resolved1 (ps:List Pr) (hs:Sm ps) (x:Pd):PC Proofs.Tryz.prog 125 [aPd x,.rp 1 [aTr ps] 0 0] (ab (resB ps x)):=by
 obtain⟨k,n,p,q,s,l⟩:=x
 have hsp:resB ps (.mk k n p q s l)=if k=2 then isPB ps.length p && decide (q=0) && knownB ps p s else if k=3 then isPB ps.length p && decide (q=0) && decide (s=ByteArray.empty) else
  if k=4 then isPB ps.length p && isPB ps.length q && !decide (p=q) && decide (s=ByteArray.empty) else true:=rfl
 generalize resB ps (.mk k n p q s l)=B at *
 have h1:=predtype_isProc ps p
 have h2:=predtype_isProc ps q
 have hkn:=fun h=>predtype_known ps hs p h s
 generalize isPB ps.length p=P at *
 generalize isPB ps.length q=Q at *
 generalize knownB ps p s=K at *
 refine PC.enter 65 [.tmp 3] [2] Proofs.Tryz.func125 rfl rfl rfl rfl rfl (by simp) (AWp.of ?_);simp only[go_sem]
 refine Wk ?_
 refine⟨fun h3 => ?_,fun h3 => ?_⟩
 ·rw[if_pos h3] at hsp
  refine Wk ?_
  refine Sd ?_
  refine(h1).val.use ?_;simp only[go_sem]
  refine GCall.use (ab K) (fun g=>⟨At,(hkn g.1).val.use ⟨rfl,rfl⟩⟩) ?_;simp only[go_sem]
  refine Sd ?_
  refine Wk ?_
  refine ret_eq ?_;simp only[go_sem]
  rw[hsp]
 rw[if_neg h3] at hsp
 refine Wk ?_
 refine⟨fun h4 => ?_,fun h4 => ?_⟩
 ·rw[if_pos h4] at hsp
  refine Wk ?_
  refine Sd ?_
  refine(h1).val.use ?_;simp only[go_sem]
  refine Wk ?_
  refine ret_eq ?_;simp only[go_sem]
  rw[hsp];rfl
 rw[if_neg h4] at hsp
 refine Wk ?_
 refine⟨fun h5 => ?_,fun h5 => ?_⟩
 ·rw[if_pos h5] at hsp
  refine Wk ?_
  refine Sd ?_
  refine(h1).val.use ?_;simp only[go_sem]
  refine Sd ?_
  refine Gc h2 ?_
  refine Sd ?_
  refine Wk ?_
  refine ret_eq ?_;simp only[go_sem]
  rw[hsp];rfl
 rw[if_neg h5] at hsp
 refine Wk ?_
 refine ret_eq ?_;simp only[go_sem]
 rw[hsp]
theorem predtype_resolved (ps:List Pr) (hs:Sm ps) (t:Pd) (hz:szF t≤1000000):PC Proofs.Tryz.prog 86 [aTr ps,aPd t] (ab (allB (resB ps) t)):=by
 have he:=predtype_eachC (resB ps) 125 [.rp 1 [aTr ps] 0 0] (fun x hx=>(predtype_resolved1 ps hs x).clo) t hz
 generalize allB (resB ps) t=b at *
 obtain⟨k,n,p,q,s,l⟩:=t
 simp only[aPd_mk] at *
 refine PC.enter 8 [.tmp 4] [2,3] Proofs.Tryz.func86 rfl rfl rfl rfl rfl (by simp) (AWp.of ?_);simp only[go_sem]
 refine Wk ?_
 refine Sd ?_
 refine(he).val.use ?_;simp only[go_sem]
 refine Wk ?_
 refine ret_eq ?_;simp only[go_sem]
theorem ref28_proc (ps:List Pr) (p:Int):PC Proofs.Tryz.prog 75 [aTr ps,ai p] (ab (isPB ps.length p)):=by
 generalize hb:isPB ps.length p=b
 refine PC.enter 14 [.tmp 4] [2] Proofs.Tryz.func75 rfl rfl rfl rfl rfl (by simp) (AWp.of ?_);simp only[go_sem]
 refine Wk ?_
 refine ret_eq ?_;simp only[go_sem]
 rw[← hb];rfl
def varX (ps:List Pr) (p:Int) (s:ByteArray):Int:=match ps[p.toNat]? with|some x=>varIx x.vars s|none => -1
theorem varX_get {ps:List Pr} {p:Nat} (hp:p<ps.length) (s:ByteArray):varX ps p s=varIx ps[p].vars s:=by unfold varX;simp only[Int.toNat_natCast,List.getElem?_eq_getElem hp]
theorem varIx_neg (vs:List (ByteArray × Int)) (s:ByteArray):varIx vs s<0↔vs.any (nmB s)=false:=by
 unfold varIx
 cases h:vs.findIdx? (nmB s) with
 | none=>simp only[List.findIdx?_eq_none_iff] at h;simp only[List.any_eq_false];exact⟨fun _ x hx=>by simp [h x hx],fun _=>by omega⟩
 | some i =>
  rw[List.findIdx?_eq_some_iff_getElem] at h
  obtain⟨hi,h1,_⟩:=h
  refine⟨fun h=>by (have:(0:Int)≤(i:Int):=by omega);exact absurd h (by simp),fun h => ?_⟩
  rw[List.any_eq_false] at h
  exact absurd h1 (by simpa using h _ (List.getElem_mem hi))
theorem varX_known (ps:List Pr) (p:Int) (s:ByteArray):decide (varX ps p s<0) = !knownB ps p s:=by
 unfold varX knownB
 split
 ·rename_i x _
  have:=varIx_neg x.vars s
  cases h:x.vars.any (nmB s)
  ·rw[decide_eq_true (this.2 h)];rfl
  ·rw[decide_eq_false (fun h'=>by rw[this.1 h'] at h;cases h)];rfl
 ·rfl
theorem ref28_Var (ps:List Pr) (hs:Sm ps) (p:Int) (hpb:isPB ps.length p=true) (s:ByteArray):PC Proofs.Tryz.prog 76 [aTr ps,ai p,astr s] (ai (varX ps p s)):=by
 obtain⟨p,rfl,hp⟩:=isPB_nat hpb
 rw[varX_get hp]
 have hm:=List.getElem_mem hp
 have hvl:=hs.vars _ hm
 have hgp:=getD_map (f:=aPr) hp
 have hhit:∀i (hi:i<ps[p].vars.length),(∀j (hj:j<ps[p].vars.length),j<i→nmB s ps[p].vars[j]=false)→nmB s ps[p].vars[i]=true→varIx ps[p].vars s=i:=by
  intro i hi h0 h1
  have:ps[p].vars.findIdx? (nmB s)=some i:=by rw[List.findIdx?_eq_some_iff_getElem];exact⟨hi,h1,fun j hj=>by simpa using h0 j (by omega) hj⟩
  unfold varIx;rw[this]
 have hno:(∀j (hj:j<ps[p].vars.length),nmB s ps[p].vars[j]=false)→varIx ps[p].vars s = -1:=by
  intro h0
  have:ps[p].vars.findIdx? (nmB s)=none:=by
   rw[List.findIdx?_eq_none_iff];intro x hx;obtain⟨i,hi,rfl⟩:=List.getElem_of_mem hx;exact h0 i hi
  unfold varIx;rw[this]
 generalize varIx ps[p].vars s=r at *
 refine PC.enter 32 [.tmp 6] [3] Proofs.Tryz.func76 rfl rfl rfl rfl rfl (by simp) (AWp.of ?_);simp only[go_sem]
 refine Wk ?_
 refine AWp.block (AWp.count 7 ps[p].vars.length [] [1,2,3] (fun i vs L=>L=[]∧∀j (hj:j<ps[p].vars.length),j<i→nmB s ps[p].vars[j]=false) rfl rfl ⟨rfl,by omega⟩ ?_)
 rintro i vs L hi - ⟨rfl,hI⟩
 simp only[go_sem]
 refine W1 hgp ?_
 refine⟨fun h1 => ?_,fun h1 => ?_⟩
 ·have hiv:i<ps[p].vars.length:=by omega
  have hgv:=getD_map (f:=aVar) hiv
  refine W2 hgp hgv ?_
  refine⟨fun h2 => ?_,fun h2 => ?_⟩
  ·refine Wk ?_
   refine ret_eq ?_;simp only[go_sem]
   rw[hhit i hiv hI (decide_eq_true h2)]
  ·refine Wk ?_
   refine⟨_,List.Sublist.refl _,rfl,fun j hj hji => ?_⟩
   by_cases e:j=i
   ·subst e;exact decide_eq_false h2
   ·exact hI j hj (by omega)
 ·refine Wk ?_
  refine ret_eq ?_;simp only[go_sem]
  rw[hno fun j hj=>hI j hj (by omega)]
theorem ref28_Resolved (ps:List Pr) (hs:Sm ps) (t:Pd):szF t≤1000000→PC Proofs.Tryz.prog 45 [aTr ps,aPd t] (ab (allB (resB ps) t)):=by
 induction t using Pd.ind with
 | _ k n p q s l ih =>
 intro hz
 have hsz:szF (.mk k n p q s l)=szL l+1:=by rw[szF]
 have hll:=szL_len l
 have hsp:allB (resB ps) (.mk k n p q s l)=(resB ps (.mk k n p q s l) && l.all (allB (resB ps))):=by rw[allB_mk]
 have hrs:resB ps (.mk k n p q s l)=if k=2 then isPB ps.length p && decide (q=0) && knownB ps p s else if k=3 then isPB ps.length p && decide (q=0) && decide (s=ByteArray.empty) else
  if k=4 then isPB ps.length p && isPB ps.length q && !decide (p=q) && decide (s=ByteArray.empty) else true:=rfl
 generalize resB ps (.mk k n p q s l)=R at *
 generalize allB (resB ps) (.mk k n p q s l)=B at *
 have h1:=ref28_proc ps p
 have h2:=ref28_proc ps q
 have hkn:=fun h=>ref28_Var ps hs p h s
 have hvk:knownB ps p s = !decide (varX ps p s<0):=by rw[varX_known];simp
 generalize isPB ps.length p=P at *
 generalize isPB ps.length q=Q at *
 generalize knownB ps p s=K at *
 generalize varX ps p s=V at *
 refine PC.enter 94 [.tmp 4] [2,3] Proofs.Tryz.func45 rfl rfl rfl rfl rfl (by simp) (AWp.of ?_);simp only[go_sem]
 refine AWp.cut [2,3] (fun vs L=>L=[]∧vs=[.rp 1 [aTr ps] 0 0,.rp 6 [aPd (.mk k n p q s l)] 0 0]∧(k=2→R=true)) ?_ ?_
 ·refine Wk ?_
  refine Sd ?_
  refine Gc h1 ?_
  refine Sd ?_
  refine GCall.use (ai V) ?_ ?_
  ·intro g;exact⟨At,(hkn g.2.1).val.use ⟨rfl,rfl⟩⟩
  simp only[go_sem]
  refine Sd ?_
  refine Wk ?_
  refine⟨fun h3 => ?_,fun h3 => ?_⟩
  ·intro h4
   refine Wk ?_
   refine ret_eq ?_;simp only[go_sem]
   rw[if_pos h3,hvk] at hrs
   rw[hsp,hrs]
   cases P
   ·rfl
   ·by_cases e:q=0
    ·have:V<0:=by simpa [e] using h4
     rw[decide_eq_true this];simp
    ·rw[decide_eq_false e];rfl
  ·refine⟨_,List.Sublist.refl _,rfl,fun h4 => ?_⟩
   rw[if_pos h4,hvk] at hrs
   rw[hrs]
   have:=h3 h4
   obtain⟨⟨e1,e2⟩,e3⟩:=this
   rw[e1,decide_eq_true e2,decide_eq_false e3];rfl
 rintro vs L - ⟨rfl,rfl,r2⟩
 simp only[go_sem]
 refine AWp.cut [2,3] (fun vs L=>L=[]∧vs=[.rp 1 [aTr ps] 0 0,.rp 6 [aPd (.mk k n p q s l)] 0 0]∧(k=3→R=true)) ?_ ?_
 ·refine Wk ?_
  refine Sd ?_
  refine Gc h1 ?_
  refine Sd ?_
  refine Wk ?_
  refine⟨fun h3 => ?_,fun h3 => ?_⟩
  ·intro h4
   refine Wk ?_
   refine ret_eq ?_;simp only[go_sem]
   rw[if_neg (by omega),if_pos h3] at hrs
   rw[hsp,hrs]
   cases P
   ·rfl
   ·by_cases e:q=0
    ·have:¬s=ByteArray.empty:=(by simpa [e] using h4:¬s=⟨#[]⟩)
     rw[decide_eq_false this];simp
    ·rw[decide_eq_false e];rfl
  ·refine⟨_,List.Sublist.refl _,rfl,fun h4 => ?_⟩
   rw[if_neg (by omega),if_pos h4] at hrs
   rw[hrs]
   have:=h3 h4
   obtain⟨⟨e1,e2⟩,e3⟩:=this
   rw[e1,decide_eq_true e2,decide_eq_true (show s=ByteArray.empty from e3)];rfl
 rintro vs L - ⟨rfl,rfl,r3⟩
 simp only[go_sem]
 refine AWp.cut [2,3] (fun vs L=>L=[]∧vs=[.rp 1 [aTr ps] 0 0,.rp 6 [aPd (.mk k n p q s l)] 0 0]∧(k=4→R=true)) ?_ ?_
 ·refine Wk ?_
  refine Sd ?_
  refine Gc h1 ?_
  refine Sd ?_
  refine Sd ?_
  refine Gc h2 ?_
  refine Sd ?_
  refine Wk ?_
  refine⟨fun h3 => ?_,fun h3 => ?_⟩
  ·intro h4
   refine Wk ?_
   refine ret_eq ?_;simp only[go_sem]
   rw[if_neg (by omega),if_neg (by omega),if_pos h3] at hrs
   rw[hsp,hrs]
   cases P
   ·rfl
   ·cases Q
    ·rfl
    ·by_cases e:p=q
     ·rw[decide_eq_true e];rfl
     ·have:¬s=ByteArray.empty:=(by simpa [e] using h4:¬s=⟨#[]⟩)
      rw[decide_eq_false this];simp
  ·refine⟨_,List.Sublist.refl _,rfl,fun h4 => ?_⟩
   rw[if_neg (by omega),if_neg (by omega),if_pos h4] at hrs
   rw[hrs]
   have:=h3 h4
   obtain⟨⟨⟨e1,e2⟩,e4⟩,e3⟩:=this
   rw[e1,e2,decide_eq_false e4,decide_eq_true (show s=ByteArray.empty from e3)];rfl
 rintro vs L - ⟨rfl,rfl,r4⟩
 have hR:R=true:=by
  by_cases k2:k=2
  ·exact r2 k2
  by_cases k3:k=3
  ·exact r3 k3
  by_cases k4:k=4
  ·exact r4 k4
  rw[hrs,if_neg k2,if_neg k3,if_neg k4]
 rw[hR,Bool.true_and] at hsp
 simp only[go_sem]
 refine Wk ?_
 refine AWp.block (AWp.count 5 l.length [] [2,3] (fun i vs L=>L=[]∧∀j (hj:j<l.length),j<i→allB (resB ps) l[j]=true) rfl rfl ⟨rfl,by omega⟩ ?_)
 rintro i vs L hi - ⟨rfl,hI⟩
 simp only[go_sem]
 refine Wk ?_
 refine⟨fun h4 => ?_,fun h4 => ?_⟩
 ·have hil:i<l.length:=by omega
  have hgi:=getD_map (f:=aPd) hil
  have hzi:=szL_mem (List.getElem_mem hil)
  have hch:=ih l[i] (List.getElem_mem hil) (by omega)
  have hnx:=all_next hI hil
  have hno:=all_not (f:=allB (resB ps)) hil
  generalize l[i]=x at *
  generalize allB (resB ps) x=bx at *
  obtain⟨k2,n2,p2,q2,s2,l2⟩:=x
  simp only[aPd_mk] at hgi hch
  refine AWp.seq (AWp.block (AWp.seq ?_))
  repeat(first|(with_reducible refine AWp.seq ?_)|(with_reducible refine AWp.block ?_))
  refine AWp.mix mixed [0,1,2,3,4,5,6,7] .done (by kernel_rfl) ?_;simp only[go_sem,hgi]
  refine Sd ?_
  refine Gc hch ?_
  refine Sd ?_
  refine Wk ?_
  refine⟨fun h5 => ?_,fun h5 => ?_⟩
  ·refine Wk ?_
   refine ret_eq ?_;simp only[go_sem]
   rw[hsp,hno h5]
  ·refine Wk ?_
   exact⟨_,List.Sublist.refl _,rfl,hnx h5⟩
 ·refine Wk ?_
  refine ret_eq ?_;simp only[go_sem]
  rw[hsp,all_of hI (by omega)]
theorem known_ix {vs:List (ByteArray × Int)} {s:ByteArray} (h:vs.any (nmB s)=true):∃i:Nat,varIx vs s=i∧i<vs.length:=by
 unfold varIx
 cases hf:vs.findIdx? (nmB s) with
 | none =>
  rw[List.findIdx?_eq_none_iff] at hf
  obtain⟨x,hx,hn⟩:=List.any_eq_true.1 h
  rw[hf x hx] at hn;cases hn
 | some i =>
  rw[List.findIdx?_eq_some_iff_getElem] at hf
  obtain⟨hi,_⟩:=hf
  exact⟨i,rfl,hi⟩
theorem known_get {ps:List Pr} {p:Nat} (hp:p<ps.length) {s:ByteArray} (h:knownB ps p s=true):ps[p].vars.any (nmB s)=true:=by
 unfold knownB at h;simpa only [Int.toNat_natCast,List.getElem?_eq_getElem hp] using h
abbrev au8 (n:Int):AV:=.v (.int .u8 n)
def letterI (n:Int):Bool:=(decide (97≤n) && decide (n≤122)) || (decide (65≤n) && decide (n≤90))
def digitI (n:Int):Bool:=decide (48≤n) && decide (n≤57)
def inI (x a b:Int):Bool:=decide (a≤x) && decide (x≤b)
def sb (s:ByteArray) (i:Nat):Int:=((s.get! i).toNat:Int)
def nameOk (s:ByteArray):Bool:=decide (s.size ≠ 0) && decide (s.size≤16) && letterI (sb s 0) && (List.range s.size).all fun i=>letterI (sb s i) || digitI (sb s i) || decide (sb s i=95)
theorem size_empty (s:ByteArray):(s=⟨#[]⟩)=(s.size=0):=by
 apply propext
 constructor
 ·rintro rfl;rfl
 ·intro h
  obtain⟨⟨l⟩⟩:=s
  have:l.length=0:=h
  rw[List.eq_nil_of_length_eq_zero this]
theorem trace_letter (n:Int):PC Proofs.Tryz.prog 205 [au8 n] (ab (letterI n)):=by
 refine PC.enter 17 [.tmp 2] [] Proofs.Tryz.func205 rfl rfl rfl rfl rfl (by simp) (AWp.of ?_);simp only[go_sem]
 refine Sd ?_
 refine AWp.of ?_;simp only[go_sem]
 refine Sd ?_
 refine AWp.of ?_;simp only[go_sem]
 refine ret_eq ?_;simp only[go_sem]
 rfl
theorem trace_digit (n:Int):PC Proofs.Tryz.prog 206 [au8 n] (ab (digitI n)):=by
 refine PC.enter 9 [.tmp 2] [] Proofs.Tryz.func206 rfl rfl rfl rfl rfl (by simp) (AWp.of ?_);simp only[go_sem]
 refine Sd ?_
 refine AWp.of ?_;simp only[go_sem]
 refine Sd ?_
 refine AWp.of ?_;simp only[go_sem]
 refine ret_eq ?_;simp only[go_sem]
 rfl
theorem trace_in (x a b:Int):PC Proofs.Tryz.prog 158 [ai x,ai a,ai b] (ab (inI x a b)):=by
 refine PC.enter 15 [.tmp 6] [] Proofs.Tryz.func158 rfl rfl rfl rfl rfl (by simp) (AWp.of ?_);simp only[go_sem]
 refine Sd ?_
 refine AWp.of ?_;simp only[go_sem]
 refine Sd ?_
 refine AWp.of ?_;simp only[go_sem]
 refine ret_eq ?_;simp only[go_sem]
 rfl
theorem trace_isName (s:ByteArray):PC Proofs.Tryz.prog 186 [astr s] (ab (nameOk s)):=by
 refine PC.enter 41 [.tmp 2] [] Proofs.Tryz.func186 rfl rfl rfl rfl rfl (by simp) (AWp.of ?_);simp only[go_sem]
 refine Sd ?_
 refine AWp.of ?_;simp only[go_sem,size_empty]
 refine Sd ?_
 refine GCall.use (ab (letterI (sb s 0))) (fun _=>⟨At,(trace_letter _).val.use ⟨rfl,rfl⟩⟩) ?_;simp only[go_sem]
 refine Sd ?_
 refine AWp.of ?_;simp only[go_sem]
 refine⟨fun ht => ?_,fun h1 h2 h3 => ?_⟩
 ·refine Sd ?_
  refine AWp.of ?_;simp only[go_sem]
  refine ret_eq ?_;simp only[go_sem]
  congr 2;symm;unfold nameOk
  rcases ht with (h|h)|h
  ·simp [h]
  ·simp [show ¬s.size≤16 by omega]
  ·simp [h]
 ·refine Sd ?_
  refine AWp.of ?_;simp only[go_sem]
  refine AWp.range' s.size [] [0,18] (fun k vs L=>L=[]∧∀i,i<k→(letterI (sb s i) || digitI (sb s i) || decide (sb s i=95))=true) (by omega) rfl rfl rfl ⟨rfl,by omega⟩ ?_ ?_
  ·rintro k vs L' hk hvs ⟨rfl,hI⟩
   simp only[go_sem]
   refine Sd ?_
   refine AWp.of ?_;simp only[go_sem]
   refine Sd ?_
   refine AWp.of ?_;simp only[go_sem]
   refine⟨⟨by omega,by omega⟩,(trace_letter _).val.use ?_⟩
   simp only[go_sem]
   refine Sd ?_
   refine GCall.use (ab (digitI (sb s k))) (fun _=>⟨At,(trace_digit _).val.use ⟨rfl,rfl⟩⟩) ?_;simp only[go_sem]
   refine Sd ?_
   refine AWp.of ?_;simp only[go_sem]
   refine⟨fun h4 h5 h6 => ?_,fun h4 => ?_⟩
   ·refine Sd ?_
    refine AWp.of ?_;simp only[go_sem]
    refine ret_eq ?_;simp only[go_sem]
    congr 2;symm;unfold nameOk
    have:((List.range s.size).all fun i=>letterI (sb s i) || digitI (sb s i) || decide (sb s i=95))=false:=by
     rw[List.all_eq_false]
     exact⟨k,List.mem_range.2 hk,by simp [show letterI (sb s k)=false from h4,h5];exact h6⟩
    rw[this];simp
   ·refine⟨[],List.Sublist.refl _,rfl,fun i hi => ?_⟩
    by_cases e:i=k
    ·subst e
     cases h5:letterI (sb s i)
     ·cases h6:digitI (sb s i)
      ·exact .inr (h4 h5 h6)
      ·exact .inl (.inr rfl)
     ·exact .inl (.inl rfl)
    ·simpa using hI i (by omega)
  ·rintro vs L' hvs ⟨rfl,hI⟩
   simp only[go_sem]
   refine Sd ?_
   refine AWp.of ?_;simp only[go_sem]
   refine Sd ?_
   refine AWp.of ?_;simp only[go_sem]
   refine ret_eq ?_;simp only[go_sem]
   congr 2;symm;unfold nameOk
   have:((List.range s.size).all fun i=>letterI (sb s i) || digitI (sb s i) || decide (sb s i=95))=true:=by
    rw[List.all_eq_true]
    exact fun i hi=>by simpa using hI i (List.mem_range.1 hi)
   rw[this];simp [h1,h3];omega
end Go.AL
end
