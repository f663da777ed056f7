/- Texts of this claim's proof: WPf, WPc, WDl, WPb, WPt, WPe, WVe. No condition. -/
import Derived.Test.YtkkcgocdmaodbaaGreatDoorM7
import Derived.Test.YtkkcgocdmaodbaaGreatDoorM4
import Derived.Test.YtkkcgocdmaodbaaGreatDoorM6
section
namespace Go.AL
open Go Go.RowKit
set_option maxRecDepth 4000
def findS {S:Type} (step:Pd→S→Bool × S):List Pd→S→Option Nat × S
 | [],s=>(none,s)
 | x :: r,s=>if (step x s).1 then (some 0,(step x s).2) else ((findS step r (step x s).2).1.map (· + 1),(findS step r (step x s).2).2)
def idxA (o:Option Nat):Int:=match o with|some i=>i|none => -1
theorem findS_step {S:Type} (step:Pd→S→Bool × S) {l:List Pd} {s s':S} {k:Nat} (hk:k<l.length) (h:findS step l s=((findS step (l.drop k) s').1.map (· + k),(findS step (l.drop k) s').2)) :
  ((step l[k] s').1=true→findS step l s=(some k,(step l[k] s').2)) ∧
  ((step l[k] s').1=false→findS step l s=((findS step (l.drop (k+1)) (step l[k] s').2).1.map (· + (k+1)),(findS step (l.drop (k+1)) (step l[k] s').2).2)):=by
 rw[List.drop_eq_getElem_cons hk,findS] at h
 refine⟨fun e => ?_,fun e => ?_⟩
 ·rw[if_pos e] at h;rw[h];simp
 ·rw[if_neg (by rw[e];decide)] at h;rw[h];simp only[Option.map_map]
  congr 2
  funext i;simp only[Function.comp];omega
theorem preds_indexS {S:Type} (step:Pd→S→Bool × S) (Ls:S→AHeap) (Inv:S→Prop) (l:List Pd) (hl:l.length≤1000000) (g:AV) (hgf:fo g=(True,g))
  (hg:∀x ∈ l,∀s,Inv s→MVal Proofs.Tryz.prog g [aPd x] (Ls s) fun r L=>r=ab (step x s).1∧L=Ls (step x s).2) (hi:∀x ∈ l,∀s,Inv s→(step x s).1=false→Inv (step x s).2) (s:S) (hs:Inv s) :
  MCalls Proofs.Tryz.prog 56 [.sl 6 (l.map aPd),g] (Ls s) fun r L=>r=ai (idxA (findS step l s).1)∧L=Ls (findS step l s).2:=by
 refine MCalls.enter' 19 [.tmp 4] [] Proofs.Tryz.func56 rfl rfl rfl rfl rfl (by simp) (AWp.of ?_);simp only[go_sem]
 refine Sd ?_
 refine AWp.of ?_;simp only[go_sem]
 refine AWp.range' l.length [] [0,1,7] (fun k vs L=>∃s',L=Ls s'∧Inv s'∧findS step l s=((findS step (l.drop k) s').1.map (· + k),(findS step (l.drop k) s').2)) (by omega) rfl rfl rfl ⟨s,rfl,hs,by simp⟩ ?_ ?_
 ·rintro k vs L' hk hvs ⟨s',rfl,hI,hf⟩
  obtain⟨f1,f2⟩:=findS_step step hk hf
  have hm:=List.getElem_mem hk
  have hgk:=hg l[k] hm s' hI
  have hik:=hi l[k] hm s' hI
  have hgi:=getD_map (f:=aPd) hk
  generalize l[k]=x at *
  generalize step x s'=st at *
  obtain⟨k2,n2,p2,q2,s2,l2⟩:=x
  simp only[aPd_mk] at hgi hgk
  simp only[go_sem]
  refine Sd ?_
  refine AWp.of ?_;simp only[go_sem]
  refine Sd ?_
  refine AWp.of ?_;simp only[go_sem,hgi,hgf]
  refine Sd ?_
  refine hgk.mono ?_
  rintro r L'' ⟨rfl,rfl⟩
  simp only[go_sem]
  refine Wk ?_
  refine⟨fun ht => ?_,fun hf' => ?_⟩
  ·refine Wk ?_
   refine ret_own ?_
   simp only[go_sem]
   rw[f1 ht];exact⟨rfl,rfl⟩
  ·refine Wk ?_
   exact⟨_,List.Sublist.refl _,_,rfl,hik hf',f2 hf'⟩
 ·rintro vs L' hvs ⟨s',rfl,hI,hf⟩
  simp only[go_sem]
  refine Wk ?_
  refine ret_own ?_
  simp only[go_sem]
  rw[hf,List.drop_length];exact⟨rfl,rfl⟩
theorem preds_containsS {S:Type} (step:Pd→S→Bool × S) (Ls:S→AHeap) (Inv:S→Prop) (l:List Pd) (hl:l.length≤1000000) (g:AV) (hgf:fo g=(True,g))
  (hg:∀x ∈ l,∀s,Inv s→MVal Proofs.Tryz.prog g [aPd x] (Ls s) fun r L=>r=ab (step x s).1∧L=Ls (step x s).2) (hi:∀x ∈ l,∀s,Inv s→(step x s).1=false→Inv (step x s).2) (s:S) (hs:Inv s) :
  MCalls Proofs.Tryz.prog 28 [.sl 6 (l.map aPd),g] (Ls s) fun r L=>r=ab ((findS step l s).1.isSome)∧L=Ls (findS step l s).2:=by
 have h:=preds_indexS step Ls Inv l hl g hgf hg hi s hs
 generalize findS step l s=o at *
 have ho:0≤idxA o.1↔o.1.isSome=true:=by cases o.1 <;> simp [idxA]
 refine MCalls.enter' 9 [.tmp 4] [] Proofs.Tryz.func28 rfl rfl rfl rfl rfl (by simp) (AWp.of ?_);simp only[go_sem]
 refine Sd ?_
 refine AWp.of ?_;simp only[go_sem,hgf]
 refine h.val.mono ?_
 rintro r L'' ⟨rfl,rfl⟩
 simp only[go_sem]
 refine Wk ?_
 refine ret_own ?_
 simp only[go_sem]
 congr 2
 rw[Bool.eq_iff_iff,decide_eq_true_iff];exact ho
theorem findS_any (p:Pd→Bool):∀l:List Pd,(findS (fun x (_:Unit)=>(p x,())) l ()).1.isSome=l.any p
 | []=>rfl
 | x :: r=>by
  rw[findS,List.any_cons]
  by_cases h:p x=true
  ·simp [h]
  ·have:=findS_any p r
   simp only[h,Bool.false_eq_true,if_false,Bool.false_or]
   rw[← this];simp
theorem preds_containsFunc (l:List Pd) (hl:l.length≤1000000) (g:AV) (hgf:fo g=(True,g)) (p:Pd→Bool) (hg:∀x ∈ l,PV Proofs.Tryz.prog g [aPd x] (ab (p x))) :
  PC Proofs.Tryz.prog 28 [.sl 6 (l.map aPd),g] (ab (l.any p)):=by
 have h:=preds_containsS (fun x (_:Unit)=>(p x,())) (fun _=>[]) (fun _=>True) l hl g hgf (fun x hx s _=>hg x hx) (fun _ _ _ _ _=>trivial) () trivial
 rw[findS_any] at h
 exact h
def resF (k:Int):Int:=if k≤8 then 1 else 2
def needF (k:Int):Int:=if k≤12 then 1 else 2
theorem predtype_result (k:Int):PC Proofs.Tryz.prog 157 [ai k] (ai (resF k)):=by
 refine PC.enter 5 [.tmp 2] [] Proofs.Tryz.func157 rfl rfl rfl rfl rfl (by simp) (AWp.of ?_);simp only[go_sem]
 refine Wk ?_
 refine Wk ?_
 refine⟨fun h1 => ?_,fun h1 => ?_⟩
 ·refine Wk ?_
  refine ret_eq ?_;simp only[go_sem]
  unfold resF;rw[if_pos h1]
 ·refine Wk ?_
  refine ret_eq ?_;simp only[go_sem]
  unfold resF;rw[if_neg h1]
theorem predtype_need (k:Int):PC Proofs.Tryz.prog 158 [ai k] (ai (needF k)):=by
 refine PC.enter 5 [.tmp 2] [] Proofs.Tryz.func158 rfl rfl rfl rfl rfl (by simp) (AWp.of ?_);simp only[go_sem]
 refine Wk ?_
 refine Wk ?_
 refine⟨fun h1 => ?_,fun h1 => ?_⟩
 ·refine Wk ?_
  refine ret_eq ?_;simp only[go_sem]
  unfold needF;rw[if_pos h1]
 ·refine Wk ?_
  refine ret_eq ?_;simp only[go_sem]
  unfold needF;rw[if_neg h1]
def tyNe (k m:Int):Bool:=decide (¬resF m=needF k)
def typB:Pd→Bool
 | .mk k _ _ _ _ l => !l.any fun x=>tyNe k x.kind
theorem predtype_typed11 (k n p q:Int) (s:ByteArray) (l:List Pd) (x:Pd):PC Proofs.Tryz.prog 156 [aPd x,.rp 6 [aPd (.mk k n p q s l)] 0 0] (ab (tyNe k x.kind)):=by
 have hr:=predtype_result x.kind
 have hn:=predtype_need k
 obtain⟨k2,n2,p2,q2,s2,l2⟩:=x
 simp only[Pd.kind] at *
 have hsp:tyNe k k2=decide (¬resF k2=needF k):=rfl
 generalize tyNe k k2=b at *
 generalize hr0:resF k2=r at *
 generalize hm0:needF k=m at *
 refine PC.enter 11 [.tmp 3] [2] Proofs.Tryz.func156 rfl rfl rfl rfl rfl (by simp) (AWp.of ?_);simp only[go_sem]
 refine AWp.seq ?_
 repeat(first|(with_reducible refine AWp.seq ?_)|(with_reducible refine AWp.block ?_))
 refine AWp.mix mixed [0,1,2,3,4,5,6,7] .done (by kernel_rfl) ?_;simp only[go_sem]
 refine Sd ?_
 refine Gc hr ?_
 refine Sd ?_
 refine Gc hn ?_
 refine Sd ?_
 refine Wk ?_
 refine ret_eq ?_;simp only[go_sem]
 rw[hsp,decide_not]
theorem predtype_typed1 (x:Pd) (hz:szF x≤1000000):PC Proofs.Tryz.prog 155 [aPd x] (ab (typB x)):=by
 obtain⟨k,n,p,q,s,l⟩:=x
 have hll:=szL_len l
 rw[szF] at hz
 have hc:=preds_containsFunc l (by omega) (.clo 156 [.rp 6 [aPd (.mk k n p q s l)] 0 0]) rfl (fun x=>tyNe k x.kind) fun x _=>(predtype_typed11 k n p q s l x).clo
 have hsp:typB (.mk k n p q s l) = !l.any fun x=>tyNe k x.kind:=rfl
 rw[hsp]
 generalize (l.any fun x=>tyNe k x.kind)=b at *
 simp only[aPd_mk] at hc
 refine PC.enter 8 [.tmp 2] [1] Proofs.Tryz.func155 rfl rfl rfl rfl rfl (by simp) (AWp.of ?_);simp only[go_sem]
 refine Wk ?_
 refine Sd ?_
 refine(hc).val.use ?_;simp only[go_sem]
 refine Wk ?_
 refine ret_eq ?_;simp only[go_sem]
theorem predtype_eachC (f:Pd→Bool) (F:FuncId) (cs:List AV) (hg:∀x,szF x≤1000000→PV Proofs.Tryz.prog (.clo F cs) [aPd x] (ab (f x))) (t:Pd):szF t≤1000000→PC Proofs.Tryz.prog 151 [aPd t,.clo F cs] (ab (allB f t)):=by
 induction t using Pd.ind with
 | _ k n p q s l ih =>
 intro hz
 have hsz:szF (.mk k n p q s l)=szL l+1:=by rw[szF]
 have hll:=szL_len l
 have hf:=hg _ hz
 have h1:∀x ∈ l,PV Proofs.Tryz.prog (.clo 199 [.rp 1 [.clo F cs] 0 0]) [aPd x] (ab (!allB f x)):=by
  intro x hx
  have hxi:=szL_mem hx
  have hch:=ih x hx (by omega)
  generalize allB f x=b at *
  obtain⟨k2,n2,p2,q2,s2,l2⟩:=x
  refine PC.clo ?_
  simp only[aPd_mk] at *
  refine PC.enter 8 [.tmp 3] [2] Proofs.Tryz.func199 rfl rfl rfl rfl rfl (by simp) (AWp.of ?_);simp only[go_sem]
  refine Wk ?_
  refine Sd ?_
  refine(hch).val.use ?_;simp only[go_sem]
  refine Wk ?_
  refine ret_eq ?_;simp only[go_sem]
 have hc:=preds_containsFunc l (by omega) _ rfl (fun x => !allB f x) h1
 have hsp:allB f (.mk k n p q s l)=(f (.mk k n p q s l) && !l.any fun x => !allB f x):=by
  rw[allB_mk];congr 1
  rw[List.all_eq_not_any_not]
 rw[hsp]
 generalize f (.mk k n p q s l)=b at *
 generalize (l.any fun x => !allB f x)=c at *
 simp only[aPd_mk] at *
 refine PC.enter 15 [.tmp 4] [2,3] Proofs.Tryz.func151 rfl rfl rfl rfl rfl (by simp) (AWp.of ?_);simp only[go_sem]
 refine Wk ?_
 refine Sd ?_
 refine(hf).use ?_;simp only[go_sem]
 refine Sd ?_
 refine Gc hc ?_
 refine Sd ?_
 refine Wk ?_
 refine ret_eq ?_;simp only[go_sem]
theorem predtype_eachV (f:Pd→Bool) (F:FuncId) (hg:∀x,szF x≤1000000→PV Proofs.Tryz.prog (.v (.func (.func F) #[] #[])) [aPd x] (ab (f x))) (t:Pd):szF t≤1000000→PC Proofs.Tryz.prog 151 [aPd t,.v (.func (.func F) #[] #[])] (ab (allB f t)):=by
 induction t using Pd.ind with
 | _ k n p q s l ih =>
 intro hz
 have hsz:szF (.mk k n p q s l)=szL l+1:=by rw[szF]
 have hll:=szL_len l
 have hf:=hg _ hz
 have h1:∀x ∈ l,PV Proofs.Tryz.prog (.clo 199 [.rp 1 [.v (.func (.func F) #[] #[])] 0 0]) [aPd x] (ab (!allB f x)):=by
  intro x hx
  have hxi:=szL_mem hx
  have hch:=ih x hx (by omega)
  generalize allB f x=b at *
  obtain⟨k2,n2,p2,q2,s2,l2⟩:=x
  refine PC.clo ?_
  simp only[aPd_mk] at *
  refine PC.enter 8 [.tmp 3] [2] Proofs.Tryz.func199 rfl rfl rfl rfl rfl (by simp) (AWp.of ?_);simp only[go_sem]
  refine Wk ?_
  refine Sd ?_
  refine(hch).val.use ?_;simp only[go_sem]
  refine Wk ?_
  refine ret_eq ?_;simp only[go_sem]
 have hc:=preds_containsFunc l (by omega) _ rfl (fun x => !allB f x) h1
 have hsp:allB f (.mk k n p q s l)=(f (.mk k n p q s l) && !l.any fun x => !allB f x):=by
  rw[allB_mk];congr 1
  rw[List.all_eq_not_any_not]
 rw[hsp]
 generalize f (.mk k n p q s l)=b at *
 generalize (l.any fun x => !allB f x)=c at *
 simp only[aPd_mk] at *
 refine PC.enter 15 [.tmp 4] [2,3] Proofs.Tryz.func151 rfl rfl rfl rfl rfl (by simp) (AWp.of ?_);simp only[go_sem]
 refine Wk ?_
 refine Sd ?_
 refine(hf).use ?_;simp only[go_sem]
 refine Sd ?_
 refine Gc hc ?_
 refine Sd ?_
 refine Wk ?_
 refine ret_eq ?_;simp only[go_sem]
def typedB (t:Pd):Bool:=allB typB t
theorem predtype_typed (t:Pd) (hz:szF t≤1000000):PC Proofs.Tryz.prog 106 [aPd t] (ab (typedB t)):=by
 have he:=predtype_eachV typB 155 (fun x hx=>(predtype_typed1 x hx).val) t hz
 unfold typedB
 generalize allB typB t=b at *
 obtain⟨k,n,p,q,s,l⟩:=t
 simp only[aPd_mk] at *
 refine PC.enter 5 [.tmp 2] [1] Proofs.Tryz.func106 rfl rfl rfl rfl rfl (by simp) (AWp.of ?_);simp only[go_sem]
 refine Wk ?_
 refine Sd ?_
 refine(he).val.use ?_;simp only[go_sem]
 refine Wk ?_
 refine ret_eq ?_;simp only[go_sem]
theorem predtype_named (k:Int):PC Proofs.Tryz.prog 198 [ai k] (ab (decide (2≤k∧k≤4))):=by
 generalize hb:decide (2≤k∧k≤4)=b
 refine PC.enter 13 [.tmp 2] [] Proofs.Tryz.func198 rfl rfl rfl rfl rfl (by simp) (AWp.of ?_);simp only[go_sem]
 refine Wk ?_
 refine ret_eq ?_;simp only[go_sem]
 rw[← hb]
 congr 2
 rw[Bool.eq_iff_iff];simp;omega
theorem partsAV_get {k:Int} (h1:1≤k) (h2:k<22):partsAV.getD k.toNat .any=ai (partsF k):=by
 have:k=1∨k=2∨k=3∨k=4∨k=5∨k=6∨k=7∨k=8∨k=9∨k=10∨k=11∨k=12∨k=13∨k=14∨k=15∨k=16∨k=17∨k=18∨k=19∨k=20∨k=21:=by omega
 rcases this with rfl|rfl|rfl|rfl|rfl|rfl|rfl|rfl|rfl|rfl|rfl|rfl|rfl|rfl|rfl|rfl|rfl|rfl|rfl|rfl|rfl <;> rfl
theorem partsAV_len:partsAV.length=22:=rfl
theorem predtype_fits (t:Pd) (hz:szF t≤1000000):PC Proofs.Tryz.prog 149 [aPd t] (ab (locB t)):=by
 obtain⟨k,n,p,q,s,l⟩:=t
 have hll:=szL_len l
 rw[szF] at hz
 have hnm:=predtype_named k
 have hsp:locB (.mk k n p q s l)=(decide (partsF k=l.length) && numB k n && nameB k p q s):=rfl
 have hpg:=@partsAV_get k
 generalize locB (.mk k n p q s l)=b at *
 refine PC.enter 59 [.tmp 2] [1] Proofs.Tryz.func149 rfl rfl rfl rfl rfl (by simp) (AWp.of ?_);simp only[go_sem]
 by_cases k1:k<1
 ·have hk0:partsAV.getD k.toNat .any=ai (-1):=by rw[show k.toNat=0 by omega];rfl
  have hpf:partsF k = -1:=by unfold partsF;rw[if_neg (by omega),if_neg (by omega),if_neg (by omega)]
  refine AWp.seq (AWp.seq ?_)
  repeat(first|(with_reducible refine AWp.seq ?_)|(with_reducible refine AWp.block ?_))
  refine AWp.mix mixed [0,1,2,3,4,5,6,7,8,9,10,11,12,13,14,15,16,17,18,19,20,21,22,23,24,25,26,27,28,29,30,31,32,33,34,35,36,37] .done (by kernel_rfl) ?_;simp only[go_sem,GV,partsAV_len,k1,hk0]
  refine Sd ?_
  refine Wk ?_
  refine ret_eq ?_;simp only[go_sem]
  rw[hsp,hpf,decide_eq_false (by omega)];rfl
 by_cases k2:22≤k
 ·have hk0:partsAV.getD k.toNat .any = .any:=by rw[List.getD_eq_getElem?_getD,List.getElem?_eq_none (by rw[partsAV_len];omega)];rfl
  have hpf:partsF k = -1:=by unfold partsF;rw[if_neg (by omega),if_neg (by omega),if_neg (by omega)]
  refine AWp.seq (AWp.seq ?_)
  repeat(first|(with_reducible refine AWp.seq ?_)|(with_reducible refine AWp.block ?_))
  refine AWp.mix mixed [0,1,2,3,4,5,6,7,8,9,10,11,12,13,14,15,16,17,18,19,20,21,22,23,24,25,26,27,28,29,30,31,32,33,34,35,36,37] .done (by kernel_rfl) ?_;simp only[go_sem,GV,partsAV_len,k1,k2,hk0]
  refine Sd ?_
  refine Wk ?_
  refine ret_eq ?_;simp only[go_sem]
  rw[hsp,hpf,decide_eq_false (by omega)];rfl
 have hpg:=hpg (by omega) (by omega)
 refine AWp.seq (AWp.seq ?_)
 repeat(first|(with_reducible refine AWp.seq ?_)|(with_reducible refine AWp.block ?_))
 refine AWp.mix mixed [0,1,2,3,4,5,6,7,8,9,10,11,12,13,14,15,16,17,18,19,20,21,22,23,24,25,26,27,28,29,30,31,32,33,34,35,36,37] .done (by kernel_rfl) ?_;simp only[go_sem,GV,partsAV_len,k1,k2,hpg]
 refine Sd ?_
 refine Wk ?_
 refine⟨fun h1 => ?_,fun h1 => ?_⟩
 ·refine Wk ?_
  refine ret_eq ?_;simp only[go_sem]
  rw[hsp]
  by_cases e:partsF k=l.length
  ·rw[show numB k n=false by unfold numB;split <;> rw[decide_eq_false (by omega)]];rw[Bool.and_false];rfl
  ·rw[decide_eq_false e];rfl
 intro h2 h3 h4
 have hnu:numB k n=true:=by
  unfold numB
  split
  ·rw[decide_eq_true (by omega)]
  ·rename_i e
   rw[decide_eq_true];exact Classical.byContradiction fun hc=>e (h4 hc)
 rw[decide_eq_true h1.symm,hnu,Bool.true_and,Bool.true_and] at hsp
 refine Wk ?_
 refine Sd ?_
 refine(hnm).val.use ?_;simp only[go_sem]
 refine Wk ?_
 refine ret_eq ?_;simp only[go_sem]
 rw[hsp]
 unfold nameB
 congr 2
 rw[Bool.eq_iff_iff]
 simp only[Bool.or_eq_true,Bool.and_eq_true,decide_eq_true_iff]
 rw[and_assoc];rfl
mutual
def walkF:Pd→Int→Int→Bool × Int
 | .mk k n p q s l,d,c=>if c - 1<0∨20<d∨locB (.mk k n p q s l)=false then (false,c - 1) else walkL l (d+1) (c - 1)
def walkL:List Pd→Int→Int→Bool × Int
 | [],_,c=>(true,c)
 | x :: r,d,c=>if (walkF x d c).1 then walkL r d (walkF x d c).2 else (false,(walkF x d c).2)
end
def stepW (d:Int) (x:Pd) (c:Int):Bool × Int:=(!(walkF x d c).1,(walkF x d c).2)
theorem findS_walk (d:Int):∀(l:List Pd) (c:Int),(findS (stepW d) l c).1.isSome = !(walkL l d c).1∧(findS (stepW d) l c).2=(walkL l d c).2
 | [],c=>by rw[walkL,findS];exact⟨rfl,rfl⟩
 | x :: r,c=>by
  rw[walkL,findS]
  by_cases h:(walkF x d c).1=true
  ·have ih:=findS_walk d r (walkF x d c).2
   rw[if_pos h,if_neg (by simp [stepW,h])]
   exact⟨by rw[← ih.1];simp [stepW],ih.2⟩
  ·rw[if_neg h,if_pos (by simp [stepW,h])]
   exact⟨rfl,rfl⟩
theorem walkF_spec (t:Pd):∀d c:Int,0≤c→((walkF t d c).1=true↔(szF t:Int)≤c∧d+dpF t≤21∧allB locB t=true)∧((walkF t d c).1=true→(walkF t d c).2=c - szF t):=by
 induction t using Pd.ind with
 | _ k n p q s l ih =>
 intro d c hc
 have hL:∀(l':List Pd),(∀x ∈ l',x ∈ l)→∀c:Int,0≤c→((walkL l' (d+1) c).1=true↔(szL l':Int)≤c∧(∀x ∈ l',d+1+dpF x≤21)∧l'.all (allB locB)=true)∧((walkL l' (d+1) c).1=true→(walkL l' (d+1) c).2=c - szL l'):=by
  intro l'
  induction l' with
  | nil=>intro _ c hc;rw[walkL,szL];exact⟨⟨fun _=>⟨by simpa using hc,by simp,rfl⟩,fun _=>rfl⟩,fun _=>by simp⟩
  | cons x r ihr =>
   intro hm c hc
   obtain⟨i1,i2⟩:=ih x (hm x List.mem_cons_self) (d+1) c hc
   rw[walkL,szL,List.all_cons]
   by_cases h:(walkF x (d+1) c).1=true
   ·have e2:=i2 h
    obtain⟨j1,j2,j3⟩:=i1.1 h
    obtain⟨r1,r2⟩:=ihr (fun y hy=>hm y (List.mem_cons_of_mem _ hy)) (walkF x (d+1) c).2 (by omega)
    rw[if_pos h]
    refine⟨r1.trans (Iff.intro ?_ ?_),fun h2=>by rw[r2 h2,e2];omega⟩
    ·rintro⟨a1,a2,a3⟩
     refine⟨by omega,fun y hy => ?_,by rw[j3,a3];rfl⟩
     rcases List.mem_cons.1 hy with rfl|hy
     ·exact j2
     ·exact a2 y hy
    ·rintro⟨a1,a2,a3⟩
     rw[j3] at a3
     exact⟨by omega,fun y hy=>a2 y (List.mem_cons_of_mem _ hy),a3⟩
   ·rw[if_neg h]
    refine⟨Iff.intro (fun h2=>by cases h2) ?_,fun h2=>by cases h2⟩
    rintro⟨a1,a2,a3⟩
    rw[Bool.and_eq_true] at a3
    exact absurd (i1.2 ⟨by omega,a2 x List.mem_cons_self,a3.1⟩) h
 have hdl:∀l':List Pd,(∀x ∈ l',d+1+dpF x≤21)∧d≤20↔d+((dpL l'+1:Nat):Int)≤21:=by
  intro l'
  induction l' with
  | nil=>rw[dpL];constructor
         ·rintro⟨_,h⟩;omega
         ·intro h;exact⟨by simp,by omega⟩
  | cons x r ihr =>
   rw[dpL]
   constructor
   ·rintro⟨h1,h2⟩
    have:=ihr.1 ⟨fun y hy=>h1 y (List.mem_cons_of_mem _ hy),h2⟩
    have:=h1 x List.mem_cons_self
    omega
   ·intro h
    have:=ihr.2 (by omega)
    refine⟨fun y hy => ?_,this.2⟩
    rcases List.mem_cons.1 hy with rfl|hy
    ·omega
    ·exact this.1 y hy
 have hd:=hdl l
 rw[walkF,szF,dpF,allB_mk]
 by_cases h:c - 1<0∨20<d∨locB (.mk k n p q s l)=false
 ·rw[if_pos h]
  refine⟨Iff.intro (fun h=>by cases h) ?_,fun h=>by cases h⟩
  rintro⟨a1,a2,a3⟩
  have:=hd.2 a2
  rw[Bool.and_eq_true] at a3
  rcases h with h|h|h
  ·omega
  ·omega
  ·rw[h] at a3;cases a3.1
 ·rw[if_neg h]
  obtain⟨w1,w2⟩:=hL l (fun _ h=>h) (c - 1) (by omega)
  have hlo:locB (.mk k n p q s l)=true:=by
   cases e:locB (.mk k n p q s l)
   ·exact absurd (Or.inr (Or.inr e)) h
   ·rfl
  rw[hlo,Bool.true_and]
  refine⟨w1.trans (Iff.intro ?_ ?_),fun h=>by rw[w2 h];omega⟩
  ·rintro⟨a1,a2,a3⟩
   exact⟨by omega,hd.1 ⟨a2,by omega⟩,a3⟩
  ·rintro⟨a1,a2,a3⟩
   exact⟨by omega,(hd.2 a2).1,a3⟩
theorem walkF_formed (t:Pd):(walkF t 1 200).1=formedB t:=by
 rw[Bool.eq_iff_iff,(walkF_spec t 1 200 (by decide)).1]
 unfold formedB
 simp only[Bool.and_eq_true,decide_eq_true_iff,and_assoc]
 exact⟨fun ⟨a,b,c⟩=>⟨by omega,by omega,c⟩,fun ⟨a,b,c⟩=>⟨by omega,by omega,c⟩⟩
def aWalk (bl bw:Nat):AV:=.clo 148 [.lp bl 1 0 0,.lp bw 1 0 0]
def LwPd (bl bw:Nat) (c:Int):AHeap:=[(bw,.row 205 1 [aWalk bl bw] 1),(bl,.row 3 1 [ai c] 1)]
theorem stepW_inv {d:Int} {x:Pd} {c:Int} (h0:0≤c) (h:(stepW d x c).1=false):0≤(stepW d x c).2∧(stepW d x c).2≤c:=by
 have h1:(walkF x d c).1=true:=by simpa [stepW] using h
 obtain⟨w1,w2⟩:=walkF_spec x d c h0
 have:=w2 h1
 have:=w1.1 h1
 show 0≤(walkF x d c).2∧(walkF x d c).2≤c
 omega
theorem predtype_formed1 (bl bw:Nat) (hb:¬bl=bw) (t:Pd):szF t≤1000000→∀d c:Int,0≤d→d≤21→0≤c→c≤200 →
  MCalls Proofs.Tryz.prog 148 [aPd t,ai d,.lp bl 1 0 0,.lp bw 1 0 0] (LwPd bl bw c) fun r L=>r=ab (walkF t d c).1∧L=LwPd bl bw (walkF t d c).2:=by
 induction t using Pd.ind with
 | _ k n p q s l ih =>
 intro hz d c d0 d1 c0 c1
 have hsz:szF (.mk k n p q s l)=szL l+1:=by rw[szF]
 have hll:=szL_len l
 have hb':¬bw=bl:=fun e=>hb e.symm
 have hft:=predtype_fits _ hz
 have hkid:d≤20→∀x ∈ l,∀c':Int,0≤c'∧c'≤200→MVal Proofs.Tryz.prog (.clo 150 [.lp bw 1 0 0,.rp 1 [ai d] 0 0]) [aPd x] (LwPd bl bw c') fun r L=>r=ab (stepW (d+1) x c').1∧L=LwPd bl bw (stepW (d+1) x c').2:=by
  intro hd x hx c' hc'
  have hxi:=szL_mem hx
  have hch:=ih x hx (by omega) (d+1) c' (by omega) (by omega) hc'.1 hc'.2
  have e1:(stepW (d+1) x c').1 = !(walkF x (d+1) c').1:=rfl
  have e2:(stepW (d+1) x c').2=(walkF x (d+1) c').2:=rfl
  rw[e1,e2]
  generalize walkF x (d+1) c'=w at *
  obtain⟨k2,n2,p2,q2,s2,l2⟩:=x
  refine MCalls.clo ?_
  unfold LwPd aWalk at *
  simp only[aPd_mk] at *
  refine MCalls.enter' 11 [.tmp 4] [3] Proofs.Tryz.func150 rfl rfl rfl rfl rfl (by simp) (AWp.of ?_);simp only[go_sem]
  refine W1 hb' ?_
  refine Sd ?_
  refine(MCalls.clo hch).mono ?_
  rintro r L ⟨rfl,rfl⟩
  simp only[go_sem]
  refine Wk ?_
  refine ret_own ?_
  simp only[go_sem]
 have hsp:walkF (.mk k n p q s l) d c=if c - 1<0∨20<d∨locB (.mk k n p q s l)=false then (false,c - 1) else walkL l (d+1) (c - 1):=by rw[walkF]
 have hcs:d≤20→0≤c - 1→_:=fun h1 h2=>preds_containsS (stepW (d+1)) (LwPd bl bw) (fun c=>0≤c∧c≤200) l (by omega) (.clo 150 [.lp bw 1 0 0,.rp 1 [ai d] 0 0]) rfl (hkid h1) (fun x hx c' hc' h=>by have:=stepW_inv hc'.1 h;omega) (c - 1) (by omega)
 obtain⟨f1,f2⟩:=findS_walk (d+1) l (c - 1)
 rw[f1,f2] at hcs
 generalize walkL l (d+1) (c - 1)=w at *
 generalize locB (.mk k n p q s l)=b at *
 generalize walkF (.mk k n p q s l) d c=z at *
 unfold LwPd aWalk at *
 simp only[aPd_mk] at *
 refine MCalls.enter' 25 [.tmp 6] [4,5] Proofs.Tryz.func148 rfl rfl rfl rfl rfl (by simp) (AWp.of ?_);simp only[go_sem]
 refine W1 hb ?_
 refine Sd ?_
 refine Gc hft ?_
 refine Sd ?_
 refine Wk ?_
 refine⟨fun h1 => ?_,fun h1 => ?_⟩
 ·have hz':z=(false,c - 1):=by
   rw[hsp,if_pos]
   rcases h1 with (h1|h1)|h1
   ·exact .inl h1
   ·exact .inr (.inl h1)
   ·exact .inr (.inr (by simpa using h1))
  refine Wk ?_
  refine ret_own ?_
  simp only[go_sem]
  rw[hz'];exact⟨rfl,rfl⟩
 intro h2 h3
 have hz':z=w:=by rw[hsp,if_neg];rintro(h|h|h);exact h1 h;exact h2 h;rw[h3] at h;cases h
 have hcs:=hcs (by omega) (by omega)
 refine W1 hb' ?_
 refine Sd ?_
 refine hcs.val.mono ?_
 rintro r L ⟨rfl,rfl⟩
 simp only[go_sem]
 refine Wk ?_
 refine ret_own ?_
 simp only[go_sem]
 rw[hz'];exact⟨rfl,rfl⟩
theorem predtype_formed (t:Pd) (hz:szF t≤1000000):PC Proofs.Tryz.prog 104 [aPd t] (ab (formedB t)):=by
 rw[← walkF_formed]
 have hw:=fun bl bw hb=>predtype_formed1 bl bw hb t hz 1 200 (by decide) (by decide) (by decide) (by decide)
 unfold LwPd aWalk at hw
 generalize walkF t 1 200=w at *
 obtain⟨k,n,p,q,s,l⟩:=t
 simp only[aPd_mk] at *
 refine PC.enter 9 [.tmp 2] [1] Proofs.Tryz.func104 rfl rfl rfl rfl rfl (by simp) (AWp.of ?_);simp only[go_sem]
 refine Wk ?_
 intro bl
 refine Wk ?_
 intro bw hlt
 have hb:¬bw=bl:=by omega
 have hb':¬bl=bw:=by omega
 refine W1 hb ?_
 refine Sd ?_
 refine(MCalls.clo (hw bl bw hb')).mono ?_
 rintro r L ⟨rfl,rfl⟩
 simp only[go_sem]
 refine Wk ?_
 refine ret_eq ?_;simp only[go_sem]
theorem predtype_TypeX (t:Pd) (hz:szF t≤1000000):PC Proofs.Tryz.prog 108 [aPd t] (.tup [ai (if formedB t=false then 0 else if typedB t=false then 0 else resF t.kind),ai (if formedB t=false then 1 else if typedB t=false then 14 else 0)]):=by
 have hf:=predtype_formed t hz
 have ht:=predtype_typed t hz
 have hr:=predtype_result t.kind
 generalize formedB t=f at *
 generalize typedB t=y at *
 obtain⟨k,n,p,q,s,l⟩:=t
 simp only[aPd_mk,Pd.kind] at *
 generalize resF k=r at *
 refine PC.enter 15 [.tmp 2,.tmp 3] [1] Proofs.Tryz.func108 rfl rfl rfl rfl rfl (by simp) (AWp.of ?_);simp only[go_sem]
 refine Wk ?_
 refine Sd ?_
 refine(hf).val.use ?_;simp only[go_sem]
 refine Wk ?_
 refine⟨fun h1 => ?_,fun h1 => ?_⟩
 ·refine Wk ?_
  refine ret_eq ?_;simp only[go_sem]
  simp [h1]
 refine Wk ?_
 refine Sd ?_
 refine(ht).val.use ?_;simp only[go_sem]
 refine Wk ?_
 refine⟨fun h2 => ?_,fun h2 => ?_⟩
 ·refine Wk ?_
  refine ret_eq ?_;simp only[go_sem]
  simp [h1,h2]
 refine Wk ?_
 refine Sd ?_
 refine(hr).val.use ?_;simp only[go_sem]
 refine Wk ?_
 refine ret_eq ?_;simp only[go_sem]
 simp [h1,h2]
def nmB (s:ByteArray) (v:ByteArray × Int):Bool:=decide (v.1=s)
def varIx (vs:List (ByteArray × Int)) (s:ByteArray):Int:=match vs.findIdx? (nmB s) with|some i=>i|none => -1
def isPB (n:Nat) (p:Int):Bool:=decide (0≤p) && decide (p<n)
def knownB (ps:List Pr) (p:Int) (s:ByteArray):Bool:=match ps[p.toNat]? with|some x=>x.vars.any (nmB s)|none=>false
def resB (ps:List Pr):Pd→Bool
 | .mk k _ p q s _=>if k=2 then isPB ps.length p && decide (q=0) && knownB ps p s else if k=3 then isPB ps.length p && decide (q=0) && decide (s=ByteArray.empty) else
  if k=4 then isPB ps.length p && isPB ps.length q && !decide (p=q) && decide (s=ByteArray.empty) else true
theorem predtype_isProc (ps:List Pr) (p:Int):PC Proofs.Tryz.prog 153 [aTr ps,ai p] (ab (isPB ps.length p)):=by
 generalize hb:isPB ps.length p=b
 refine PC.enter 14 [.tmp 4] [2] Proofs.Tryz.func153 rfl rfl rfl rfl rfl (by simp) (AWp.of ?_);simp only[go_sem]
 refine Wk ?_
 refine ret_eq ?_;simp only[go_sem]
 rw[← hb];rfl
theorem predtype_known1 (v:ByteArray × Int) (s:ByteArray):PC Proofs.Tryz.prog 200 [aVar v,.rp 1 [astr s] 0 0] (ab (nmB s v)):=by
 generalize hb:nmB s v=b
 refine PC.enter 8 [.tmp 3] [2] Proofs.Tryz.func200 rfl rfl rfl rfl rfl (by simp) (AWp.of ?_);simp only[go_sem]
 refine Wk ?_
 refine ret_eq ?_;simp only[go_sem]
 rw[← hb];rfl
theorem isPB_nat {n:Nat} {p:Int} (h:isPB n p=true):∃i:Nat,p=i∧i<n:=by
 unfold isPB at h;simp only[Bool.and_eq_true,decide_eq_true_eq] at h
 exact⟨p.toNat,by omega,by omega⟩
theorem predtype_known (ps:List Pr) (hs:Sm ps) (p:Int) (hpb:isPB ps.length p=true) (s:ByteArray):PC Proofs.Tryz.prog 154 [aTr ps,ai p,astr s] (ab (knownB ps p s)):=by
 obtain⟨p,rfl,hp⟩:=isPB_nat hpb
 have hm:=List.getElem_mem hp
 have hc:=vars_containsFunc ps[p].vars (hs.vars _ hm) (.clo 200 [.rp 1 [astr s] 0 0]) rfl (nmB s) fun v _=>(predtype_known1 v s).clo
 have hk:knownB ps p s=ps[p].vars.any (nmB s):=by unfold knownB;simp only[Int.toNat_natCast,List.getElem?_eq_getElem hp]
 have hgp:=getD_map (f:=aPr) hp
 rw[hk]
 generalize ps[p].vars.any (nmB s)=b at *
 refine PC.enter 15 [.tmp 6] [3,5] Proofs.Tryz.func154 rfl rfl rfl rfl rfl (by simp) (AWp.of ?_);simp only[go_sem]
 refine W1 hgp ?_
 refine Sd ?_
 refine(hc).val.use ?_;simp only[go_sem]
 refine Wk ?_
 refine ret_eq ?_;simp only[go_sem]
theorem predtype_resolved1 (ps:List Pr) (hs:Sm ps) (x:Pd):PC Proofs.Tryz.prog 152 [aPd x,.rp 1 [aTr ps] 0 0] (ab (resB ps x)):=by
 obtain⟨k,n,p,q,s,l⟩:=x
 have hsp:resB ps (.mk k n p q s l)=if k=2 then isPB ps.length p && decide (q=0) && knownB ps p s else if k=3 then isPB ps.length p && decide (q=0) && decide (s=ByteArray.empty) else
  if k=4 then isPB ps.length p && isPB ps.length q && !decide (p=q) && decide (s=ByteArray.empty) else true:=rfl
 generalize resB ps (.mk k n p q s l)=B at *
 have h1:=predtype_isProc ps p
 have h2:=predtype_isProc ps q
 have hkn:=fun h=>predtype_known ps hs p h s
 generalize isPB ps.length p=P at *
 generalize isPB ps.length q=Q at *
 generalize knownB ps p s=K at *
 refine PC.enter 65 [.tmp 3] [2] Proofs.Tryz.func152 rfl rfl rfl rfl rfl (by simp) (AWp.of ?_);simp only[go_sem]
 refine Wk ?_
 refine⟨fun h3 => ?_,fun h3 => ?_⟩
 ·rw[if_pos h3] at hsp
  refine Wk ?_
  refine Sd ?_
  refine(h1).val.use ?_;simp only[go_sem]
  refine GCall.use (ab K) (fun g=>⟨At,(hkn g.1).val.use ⟨rfl,rfl⟩⟩) ?_;simp only[go_sem]
  refine Sd ?_
  refine Wk ?_
  refine ret_eq ?_;simp only[go_sem]
  rw[hsp]
 rw[if_neg h3] at hsp
 refine Wk ?_
 refine⟨fun h4 => ?_,fun h4 => ?_⟩
 ·rw[if_pos h4] at hsp
  refine Wk ?_
  refine Sd ?_
  refine(h1).val.use ?_;simp only[go_sem]
  refine Wk ?_
  refine ret_eq ?_;simp only[go_sem]
  rw[hsp];rfl
 rw[if_neg h4] at hsp
 refine Wk ?_
 refine⟨fun h5 => ?_,fun h5 => ?_⟩
 ·rw[if_pos h5] at hsp
  refine Wk ?_
  refine Sd ?_
  refine(h1).val.use ?_;simp only[go_sem]
  refine Sd ?_
  refine Gc h2 ?_
  refine Sd ?_
  refine Wk ?_
  refine ret_eq ?_;simp only[go_sem]
  rw[hsp];rfl
 rw[if_neg h5] at hsp
 refine Wk ?_
 refine ret_eq ?_;simp only[go_sem]
 rw[hsp]
theorem predtype_resolved (ps:List Pr) (hs:Sm ps) (t:Pd) (hz:szF t≤1000000):PC Proofs.Tryz.prog 105 [aTr ps,aPd t] (ab (allB (resB ps) t)):=by
 have he:=predtype_eachC (resB ps) 152 [.rp 1 [aTr ps] 0 0] (fun x hx=>(predtype_resolved1 ps hs x).clo) t hz
 generalize allB (resB ps) t=b at *
 obtain⟨k,n,p,q,s,l⟩:=t
 simp only[aPd_mk] at *
 refine PC.enter 8 [.tmp 4] [2,3] Proofs.Tryz.func105 rfl rfl rfl rfl rfl (by simp) (AWp.of ?_);simp only[go_sem]
 refine Wk ?_
 refine Sd ?_
 refine(he).val.use ?_;simp only[go_sem]
 refine Wk ?_
 refine ret_eq ?_;simp only[go_sem]
def varX (ps:List Pr) (p:Int) (s:ByteArray):Int:=match ps[p.toNat]? with|some x=>varIx x.vars s|none => -1
theorem varX_get {ps:List Pr} {p:Nat} (hp:p<ps.length) (s:ByteArray):varX ps p s=varIx ps[p].vars s:=by unfold varX;simp only[Int.toNat_natCast,List.getElem?_eq_getElem hp]
theorem varIx_neg (vs:List (ByteArray × Int)) (s:ByteArray):varIx vs s<0↔vs.any (nmB s)=false:=by
 unfold varIx
 cases h:vs.findIdx? (nmB s) with
 | none=>simp only[List.findIdx?_eq_none_iff] at h;simp only[List.any_eq_false];exact⟨fun _ x hx=>by simp [h x hx],fun _=>by omega⟩
 | some i =>
  rw[List.findIdx?_eq_some_iff_getElem] at h
  obtain⟨hi,h1,_⟩:=h
  refine⟨fun h=>by (have:(0:Int)≤(i:Int):=by omega);exact absurd h (by simp),fun h => ?_⟩
  rw[List.any_eq_false] at h
  exact absurd h1 (by simpa using h _ (List.getElem_mem hi))
theorem known_ix {vs:List (ByteArray × Int)} {s:ByteArray} (h:vs.any (nmB s)=true):∃i:Nat,varIx vs s=i∧i<vs.length:=by
 unfold varIx
 cases hf:vs.findIdx? (nmB s) with
 | none =>
  rw[List.findIdx?_eq_none_iff] at hf
  obtain⟨x,hx,hn⟩:=List.any_eq_true.1 h
  rw[hf x hx] at hn;cases hn
 | some i =>
  rw[List.findIdx?_eq_some_iff_getElem] at hf
  obtain⟨hi,_⟩:=hf
  exact⟨i,rfl,hi⟩
theorem known_get {ps:List Pr} {p:Nat} (hp:p<ps.length) {s:ByteArray} (h:knownB ps p s=true):ps[p].vars.any (nmB s)=true:=by
 unfold knownB at h;simpa only [Int.toNat_natCast,List.getElem?_eq_getElem hp] using h
theorem fstF_zero {f:Nat→Int} {n:Nat} (h:fstF f n=0):∀i,i<n→f i=0:=by
 intro i
 induction i using Nat.strongRecOn with
 | _ i ih =>
  intro hi
  by_cases h0:f i=0
  ·exact h0
  ·rw[fstF_hit hi (fun j hj=>ih j hj (by omega)) h0] at h;exact h
theorem procF_of_valid {ps:List Pr} (h:validF ps=true) {p:Nat} (hp:p<ps.length):procF ps p=0:=by
 have h0:=(valid_parts h).1
 unfold procFirst at h0
 rw[Option.map_eq_none_iff,List.find?_eq_none] at h0
 simpa using h0 p (List.mem_range.2 hp)
theorem evF_parts {ps:List Pr} {p:Nat} (hp:p<ps.length) {i:Nat} (hi:i<ps[p].evs.length):evF ps p i=0↔formedI ps.length p ps[p].evs[i]=true∧(0≤ps[p].evs[i].time∧ps[p].evs[i].time≤1099511627776∧lastT ps[p].evs i≤ps[p].evs[i].time) ∧
  ps[p].evs[i].asg.length≤8∧∀k,k<ps[p].evs[i].asg.length→asgF ps[p].vars.length ps[p].evs[i].asg k=0:=by
 have e:evF ps p i=if !formedI ps.length p ps[p].evs[i] then 3 else if !inI ps[p].evs[i].time 0 1099511627776 || decide (ps[p].evs[i].time<lastT ps[p].evs i) then 11 else if 8<ps[p].evs[i].asg.length then 5 else fstF (asgF ps[p].vars.length ps[p].evs[i].asg) ps[p].evs[i].asg.length:=by
  unfold evF;simp only[List.getElem?_eq_getElem hp,List.getElem?_eq_getElem hi]
 rw[e]
 constructor
 ·intro h
  split at h
  ·cases h
  ·rename_i h1
   split at h
   ·cases h
   ·rename_i h2
    split at h
    ·cases h
    ·simp only[inI,Bool.or_eq_true,Bool.not_eq_true',not_or,Bool.not_eq_false,Bool.and_eq_true,decide_eq_true_eq] at h2
     exact⟨by simpa using h1,⟨h2.1.1,h2.1.2,by omega⟩,by omega,fstF_zero h⟩
 ·rintro⟨h1,⟨h2,h3,h4⟩,h5,h6⟩
  rw[if_neg (by rw[h1];decide),if_neg (by simp only[inI,Bool.or_eq_true,Bool.not_eq_true',not_or,Bool.not_eq_false,Bool.and_eq_true,decide_eq_true_eq];omega),if_neg (by omega),fstF_none h6]
theorem evF_of_valid {ps:List Pr} (h:validF ps=true) {p:Nat} (hp:p<ps.length) {i:Nat} (hi:i<ps[p].evs.length):evF ps p i=0:=evFirst_get (valid_parts h).2.1 hp hi
theorem valid_cyc {ps:List Pr} (h:validF ps=true):cycF ps=none:=by
 obtain⟨h1,h2,h3⟩:=valid_parts h
 unfold validF faultF at h
 rw[h1,h2,h3] at h
 simp only[decide_eq_true_eq] at h
 split at h
 ·cases h
 ·split at h
  ·cases h
  ·assumption
section
variable {ps:List Pr} {c:List Int}
end
def mn2 (a b:Int):Int:=if b<a then b else a
def mx2 (a b:Int):Int:=if a<b then b else a
def minL:List Int→Int | []=>0|a :: r=>r.foldl mn2 a
def maxL:List Int→Int | []=>0|a :: r=>r.foldl mx2 a
theorem mn2_le (a b:Int):mn2 a b≤a∧mn2 a b≤b:=by unfold mn2;split <;> omega
theorem mx2_le (a b:Int):a≤mx2 a b∧b≤mx2 a b:=by unfold mx2;split <;> omega
theorem minL_snoc {l:List Int} (h:l ≠ []) (y:Int):minL (l ++ [y])=mn2 (minL l) y:=by
 cases l with
 | nil=>exact absurd rfl h
 | cons a r=>simp only[minL,List.cons_append,List.foldl_append,List.foldl_cons,List.foldl_nil]
theorem maxL_snoc {l:List Int} (h:l ≠ []) (y:Int):maxL (l ++ [y])=mx2 (maxL l) y:=by
 cases l with
 | nil=>exact absurd rfl h
 | cons a r=>simp only[maxL,List.cons_append,List.foldl_append,List.foldl_cons,List.foldl_nil]
theorem fold_mn (r:List Int):∀a,r.foldl mn2 a≤a∧∀y ∈ r,r.foldl mn2 a≤y:=by
 induction r with
 | nil=>intro a;exact⟨Int.le_refl _,fun y hy=>by cases hy⟩
 | cons b r ih =>
  intro a
  obtain⟨h1,h2⟩:=ih (mn2 a b)
  have:=mn2_le a b
  simp only[List.foldl_cons]
  refine⟨by omega,fun y hy => ?_⟩
  rcases List.mem_cons.1 hy with rfl|hy
  ·omega
  ·exact h2 y hy
theorem fold_mx (r:List Int):∀a,a≤r.foldl mx2 a∧∀y ∈ r,y≤r.foldl mx2 a:=by
 induction r with
 | nil=>intro a;exact⟨Int.le_refl _,fun y hy=>by cases hy⟩
 | cons b r ih =>
  intro a
  obtain⟨h1,h2⟩:=ih (mx2 a b)
  have:=mx2_le a b
  simp only[List.foldl_cons]
  refine⟨by omega,fun y hy => ?_⟩
  rcases List.mem_cons.1 hy with rfl|hy
  ·omega
  ·exact h2 y hy
theorem minL_le {l:List Int} {y:Int} (h:y ∈ l):minL l≤y:=by
 cases l with
 | nil=>cases h
 | cons a r=>rcases List.mem_cons.1 h with rfl|h;exact(fold_mn r _).1;exact(fold_mn r _).2 _ h
theorem le_maxL {l:List Int} {y:Int} (h:y ∈ l):y≤maxL l:=by
 cases l with
 | nil=>cases h
 | cons a r=>rcases List.mem_cons.1 h with rfl|h;exact(fold_mx r _).1;exact(fold_mx r _).2 _ h
theorem minL_take {l:List Int} {k:Nat} (h0:0<k) (hk:k<l.length):minL (l.take (k+1))=mn2 (minL (l.take k)) l[k]:=by
 rw[List.take_succ_eq_append_getElem hk,minL_snoc]
 intro e;rw[List.take_eq_nil_iff] at e;rcases e with e|e
 ·omega
 ·subst e;simp at hk
theorem maxL_take {l:List Int} {k:Nat} (h0:0<k) (hk:k<l.length):maxL (l.take (k+1))=mx2 (maxL (l.take k)) l[k]:=by
 rw[List.take_succ_eq_append_getElem hk,maxL_snoc]
 intro e;rw[List.take_eq_nil_iff] at e;rcases e with e|e
 ·omega
 ·subst e;simp at hk
def valsF (x:Pr) (v:Nat):List Int:=(List.range (x.evs.length+1)).map fun k=>(stateAt x k).getD v 0
theorem valsF_length (x:Pr) (v:Nat):(valsF x v).length=x.evs.length+1:=by unfold valsF;simp
theorem valsF_get (x:Pr) (v:Nat) {k:Nat} (hk:k<(valsF x v).length):(valsF x v)[k]=(stateAt x k).getD v 0:=by unfold valsF;simp
theorem valsF_mem (x:Pr) (v:Nat) {k:Nat} (hk:k≤x.evs.length):(stateAt x k).getD v 0 ∈ valsF x v:=by
 unfold valsF;rw[List.mem_map];exact⟨k,List.mem_range.2 (by omega),rfl⟩
def varLo (ps:List Pr) (p:Int) (s:ByteArray):Int:=match ps[p.toNat]? with|some x=>minL (valsF x (varIx x.vars s).toNat)|none=>0
def varHi (ps:List Pr) (p:Int) (s:ByteArray):Int:=match ps[p.toNat]? with|some x=>maxL (valsF x (varIx x.vars s).toNat)|none=>0
def evN (ps:List Pr) (p:Int):Int:=match ps[p.toNat]? with|some x=>x.evs.length|none=>0
def sentTo (q:Int) (e:Ev):Bool:=decide (e.kind=2) && decide (e.peer=q)
def msgN (ps:List Pr) (p q:Int):Int:=match ps[p.toNat]? with|some x=>(x.evs.countP (sentTo q):Int)|none=>0
def tooB (a b:Int):Bool:=decide (a < -1125899906842624) || decide (1125899906842624<b)
def absF (a:Int):Int:=mx2 a (-a)
def timesF (a b:Int):Int:=if a=0∨b=0 then 0 else if 1125899906842624 / absF b<absF a then (if (decide (a<0) != decide (b<0))=true then -1125899906842625 else 1125899906842625) else a * b
abbrev Bd:=Int × Int × Bool
def bdL (ps:List Pr) (k n p q:Int) (s:ByteArray):Int × Int:=if k=1 then (n,n) else if k=3 then (0,evN ps p) else if k=4 then (0,msgN ps p q) else (varLo ps p s,varHi ps p s)
def bd2 (k:Int) (a b:Bd):Int × Int:=if k=5 then (-a.2.1,-a.1) else if k=6 then (a.1+b.1,a.2.1+b.2.1) else if k=7 then (a.1 - b.2.1,a.2.1 - b.1) else
 (minL [timesF a.1 b.1,timesF a.1 b.2.1,timesF a.2.1 b.1,timesF a.2.1 b.2.1],maxL [timesF a.1 b.1,timesF a.1 b.2.1,timesF a.2.1 b.1,timesF a.2.1 b.2.1])
def bdG (i:Int × Int):Bd:=(i.1,i.2,!tooB i.1 i.2)
def bdN (ps:List Pr) (k n p q:Int) (s:ByteArray):List Bd→Bd
 | []=>bdG (bdL ps k n p q s)
 | [a]=>if a.2.2=true then bdG (bd2 k a a) else (0,0,false)
 | a :: b :: _=>if a.2.2=true∧b.2.2=true then bdG (bd2 k a b) else (0,0,false)
mutual
def intF (ps:List Pr):Pd→Bd
 | .mk k n p q s l=>bdN ps k n p q s (intL ps l)
def intL (ps:List Pr):List Pd→List Bd
 | []=>[]
 | x :: r=>intF ps x :: intL ps r
end
theorem intL_map (ps:List Pr):∀l,intL ps l=l.map (intF ps)
 | []=>by rw[intL];rfl
 | x :: r=>by rw[intL,intL_map ps r];rfl
theorem intF_mk (ps:List Pr) (k n p q:Int) (s:ByteArray) (l:List Pd):intF ps (.mk k n p q s l)=bdN ps k n p q s (l.map (intF ps)):=by rw[intF,intL_map]
mutual
def fitB (ps:List Pr):Pd→Bool
 | .mk k n p q s l=>if k≤8 then (intF ps (.mk k n p q s l)).2.2 else fitL ps l
def fitL (ps:List Pr):List Pd→Bool
 | []=>true
 | x :: r=>fitB ps x && fitL ps r
end
theorem fitL_all (ps:List Pr):∀l,fitL ps l=l.all (fitB ps)
 | []=>by rw[fitL];rfl
 | x :: r=>by rw[fitL,fitL_all ps r];rfl
theorem fitB_mk (ps:List Pr) (k n p q:Int) (s:ByteArray) (l:List Pd):fitB ps (.mk k n p q s l)=if k≤8 then (intF ps (.mk k n p q s l)).2.2 else l.all (fitB ps):=by rw[fitB,fitL_all]
def okT (ps:List Pr) (t:Pd):Bool:=allB locB t && allB (resB ps) t && allB typB t
theorem allB_sub {f:Pd→Bool} {k n p q:Int} {s:ByteArray} {l:List Pd} (h:allB f (.mk k n p q s l)=true):f (.mk k n p q s l)=true∧∀x ∈ l,allB f x=true:=by
 rw[allB_mk,Bool.and_eq_true,List.all_eq_true] at h;exact h
theorem okT_sub {ps:List Pr} {k n p q:Int} {s:ByteArray} {l:List Pd} (h:okT ps (.mk k n p q s l)=true) :
  locB (.mk k n p q s l)=true∧resB ps (.mk k n p q s l)=true∧typB (.mk k n p q s l)=true∧∀x ∈ l,okT ps x=true∧resF x.kind=needF k:=by
 unfold okT at *
 simp only[Bool.and_eq_true] at h
 obtain⟨⟨h1,h2⟩,h3⟩:=h
 obtain⟨a1,b1⟩:=allB_sub h1
 obtain⟨a2,b2⟩:=allB_sub h2
 obtain⟨a3,b3⟩:=allB_sub h3
 refine⟨a1,a2,a3,fun x hx=>⟨by simp only[Bool.and_eq_true];exact⟨⟨b1 x hx,b2 x hx⟩,b3 x hx⟩,?_⟩⟩
 unfold typB at a3
 have:=List.any_eq_false.1 (Bool.not_eq_true' _ ▸ a3:(l.any fun x=>tyNe k x.kind)=false) x hx
 unfold tyNe at this
 simpa using this
theorem loc_len {k n p q:Int} {s:ByteArray} {l:List Pd} (h:locB (.mk k n p q s l)=true):partsF k=l.length∧numB k n=true:=by
 unfold locB at h
 simp only[Bool.and_eq_true,decide_eq_true_eq] at h
 exact h.1
structure Obs where
 var:Int→ByteArray→Int
 cnt:Int→Int
 chn:Int→Int→Int
def valN (o:Obs) (k n p q:Int) (s:ByteArray):List Int→Int
 | []=>if k=1 then n else if k=2 then o.var p s else if k=3 then o.cnt p else o.chn p q
 | [a] => -a
 | a :: b :: _=>if k=6 then a+b else if k=7 then a - b else a * b
mutual
def valF (o:Obs):Pd→Int
 | .mk k n p q s l=>valN o k n p q s (valL o l)
def valL (o:Obs):List Pd→List Int
 | []=>[]
 | x :: r=>valF o x :: valL o r
end
theorem valL_map (o:Obs):∀l,valL o l=l.map (valF o)
 | []=>by rw[valL];rfl
 | x :: r=>by rw[valL,valL_map o r];rfl
theorem valF_mk (o:Obs) (k n p q:Int) (s:ByteArray) (l:List Pd):valF o (.mk k n p q s l)=valN o k n p q s (l.map (valF o)):=by rw[valF,valL_map]
def obsB (ps:List Pr) (o:Obs):Pd→Prop
 | .mk k _ p q s _=>(k=2→varLo ps p s≤o.var p s∧o.var p s≤varHi ps p s)∧(k=3→0≤o.cnt p∧o.cnt p≤evN ps p)∧(k=4→0≤o.chn p q∧o.chn p q≤msgN ps p q)
mutual
def AllP (f:Pd→Prop):Pd→Prop
 | .mk k n p q s l=>f (.mk k n p q s l)∧AllPL f l
def AllPL (f:Pd→Prop):List Pd→Prop
 | []=>True
 | x :: r=>AllP f x∧AllPL f r
end
theorem AllPL_mem {f:Pd→Prop} : ∀ {l:List Pd},AllPL f l→∀x ∈ l,AllP f x
 | x :: r,h,y,hy=>by
  rw[AllPL] at h
  rcases List.mem_cons.1 hy with rfl|hy
  ·exact h.1
  ·exact AllPL_mem h.2 y hy
theorem AllP_sub {f:Pd→Prop} {k n p q:Int} {s:ByteArray} {l:List Pd} (h:AllP f (.mk k n p q s l)):f (.mk k n p q s l)∧∀x ∈ l,AllP f x:=by
 rw[AllP] at h;exact⟨h.1,AllPL_mem h.2⟩
theorem AllPL_of {f:Pd→Prop} : ∀ {l:List Pd},(∀x ∈ l,AllP f x)→AllPL f l
 | [],_=>by rw[AllPL];trivial
 | x :: r,h=>by rw[AllPL];exact⟨h x List.mem_cons_self,AllPL_of fun y hy=>h y (List.mem_cons_of_mem _ hy)⟩
theorem AllP_mk {f:Pd→Prop} {k n p q:Int} {s:ByteArray} {l:List Pd} (h:f (.mk k n p q s l)) (hs:∀x ∈ l,AllP f x):AllP f (.mk k n p q s l):=by
 rw[AllP];exact⟨h,AllPL_of hs⟩
theorem AllP_of_allB {f:Pd→Bool} {g:Pd→Prop} (h:∀x,f x=true→g x) (t:Pd):allB f t=true→AllP g t:=by
 induction t using Pd.ind with
 | _ k n p q s l ih=>intro ht;obtain⟨a,b⟩:=allB_sub ht;exact AllP_mk (h _ a) fun x hx=>ih x hx (b x hx)
theorem tooB_false {a b:Int} (h:(!tooB a b)=true) : -1125899906842624≤a∧b≤1125899906842624:=by
 unfold tooB at h;simp at h;omega
theorem absF_eq (a:Int):absF a=a.natAbs:=by unfold absF mx2;split <;> omega
theorem timesF_ok {a b:Int} (h1 : -1125899906842624≤timesF a b) (h2:timesF a b≤1125899906842624):timesF a b=a * b:=by
 unfold timesF at *
 split
 ·rename_i h;rcases h with rfl|rfl <;> simp
 ·rename_i h
  rw[if_neg h] at h1 h2
  split
  ·rename_i hh;rw[if_pos hh] at h1 h2
   by_cases hx:(decide (a<0) != decide (b<0))=true
   ·rw[if_pos hx] at h1;omega
   ·rw[if_neg hx] at h2;omega
  ·rfl
theorem mul_ends {a b y:Int} {x:Int} (hx1:a≤x) (hx2:x≤b):(a * y≤x * y∧x * y≤b * y)∨(b * y≤x * y∧x * y≤a * y):=by
 rcases Int.le_total 0 y with h|h
 ·exact .inl ⟨Int.mul_le_mul_of_nonneg_right hx1 h,Int.mul_le_mul_of_nonneg_right hx2 h⟩
 ·exact .inr ⟨Int.mul_le_mul_of_nonpos_right hx2 h,Int.mul_le_mul_of_nonpos_right hx1 h⟩
theorem mul_ends' {a b x y:Int} (hx1:a≤x) (hx2:x≤b):(y * a≤y * x∧y * x≤y * b)∨(y * b≤y * x∧y * x≤y * a):=by
 rw[Int.mul_comm y a,Int.mul_comm y b,Int.mul_comm y x];exact mul_ends hx1 hx2
theorem mul_hull {a b c d x y m M:Int} (hx1:a≤x) (hx2:x≤b) (hy1:c≤y) (hy2:y≤d) (h1:m≤a * c∧a * c≤M) (h2:m≤a * d∧a * d≤M) (h3:m≤b * c∧b * c≤M) (h4:m≤b * d∧b * d≤M) :
  m≤x * y∧x * y≤M:=by
 have e1:=mul_ends (y:=y) hx1 hx2
 have e2:=mul_ends' (y:=a) hy1 hy2
 have e3:=mul_ends' (y:=b) hy1 hy2
 generalize x * y=u at *
 generalize a * y=u1 at *
 generalize b * y=u2 at *
 generalize a * c=v1 at *
 generalize a * d=v2 at *
 generalize b * c=v3 at *
 generalize b * d=v4 at *
 omega
theorem hull4 (a b c d:Int):(minL [a,b,c,d]≤a∧a≤maxL [a,b,c,d])∧(minL [a,b,c,d]≤b∧b≤maxL [a,b,c,d])∧(minL [a,b,c,d]≤c∧c≤maxL [a,b,c,d])∧(minL [a,b,c,d]≤d∧d≤maxL [a,b,c,d]) :=
 ⟨⟨minL_le (by simp),le_maxL (by simp)⟩,⟨minL_le (by simp),le_maxL (by simp)⟩,⟨minL_le (by simp),le_maxL (by simp)⟩,⟨minL_le (by simp),le_maxL (by simp)⟩⟩
theorem parts_cases (k:Int):(partsF k=0∧((1≤k∧k≤4)∨k=13∨k=14))∨(partsF k=1∧(k=5∨k=15∨(18≤k∧k≤21)))∨(partsF k=2∧((6≤k∧k≤12)∨k=16∨k=17))∨partsF k = -1:=by
 unfold partsF
 split
 ·exact .inl ⟨rfl,by omega⟩
 ·split
  ·exact .inr (.inl ⟨rfl,by omega⟩)
  ·split
   ·exact .inr (.inr (.inl ⟨rfl,by omega⟩))
   ·exact .inr (.inr (.inr rfl))
theorem resF_le {k:Int} (h:resF k=1):k≤8:=by unfold resF at h;split at h <;> omega
theorem child_le {ps:List Pr} {k n p q:Int} {s:ByteArray} {l:List Pd} (h:okT ps (.mk k n p q s l)=true) (hk:k≤12):∀x ∈ l,okT ps x=true∧x.kind≤8:=by
 intro x hx
 obtain⟨h1,h2⟩:=(okT_sub h).2.2.2 x hx
 refine⟨h1,resF_le ?_⟩
 rw[h2];unfold needF;rw[if_pos hk]
theorem len0 {α:Type} {l:List α} (h:l.length=0):l=[]:=List.length_eq_zero_iff.1 h
theorem len1 {α:Type} {l:List α} (h:l.length=1):∃a,l=[a]:=List.length_eq_one_iff.1 h
theorem len2 {α:Type} {l:List α} (h:l.length=2):∃a b,l=[a,b]:=by
 match l,h with
 | [a,b],_=>exact⟨a,b,rfl⟩
theorem valF_bounds (ps:List Pr) (o:Obs) (t:Pd):okT ps t=true→t.kind≤8→AllP (obsB ps o) t→(intF ps t).2.2=true →
  (intF ps t).1≤valF o t∧valF o t≤(intF ps t).2.1 ∧ -1125899906842624≤(intF ps t).1∧(intF ps t).2.1≤1125899906842624:=by
 induction t using Pd.ind with
 | _ k n p q s l ih =>
 intro ht hk ho hi
 obtain⟨h1,h2,h3,h4⟩:=okT_sub ht
 obtain⟨hpl,hnu⟩:=loc_len h1
 obtain⟨o1,o2⟩:=AllP_sub ho
 have hch:=child_le ht (show k≤12 by simp only[Pd.kind] at hk;omega)
 simp only[Pd.kind] at hk
 rw[intF_mk] at *
 rw[valF_mk]
 rcases parts_cases k with ⟨e,hc⟩|⟨e,hc⟩|⟨e,hc⟩|e
 ·obtain rfl:=len0 (l:=l) (by omega)
  simp only[List.map_nil,bdN,bdG,valN] at *
  obtain⟨b1,b2⟩:=tooB_false hi
  obtain⟨v2,v3,v4⟩:=o1
  have hk4:k=1∨k=2∨k=3∨k=4:=by omega
  refine⟨?_,?_,b1,b2⟩
  ·rcases hk4 with rfl|rfl|rfl|rfl
   ·simp [bdL]
   ·have:=(v2 rfl).1;simpa [bdL] using this
   ·have:=(v3 rfl).1;simpa [bdL] using this
   ·have:=(v4 rfl).1;simpa [bdL] using this
  ·rcases hk4 with rfl|rfl|rfl|rfl
   ·simp [bdL]
   ·have:=(v2 rfl).2;simpa [bdL] using this
   ·have:=(v3 rfl).2;simpa [bdL] using this
   ·have:=(v4 rfl).2;simpa [bdL] using this
 ·obtain⟨a,rfl⟩:=len1 (l:=l) (by omega)
  simp only[List.map_cons,List.map_nil,bdN,valN] at *
  split at hi
  ·rename_i ha
   rw[if_pos ha]
   obtain⟨c1,c2⟩:=hch a (by simp)
   obtain⟨d1,d2,d3,d4⟩:=ih a (by simp) c1 c2 (o2 a (by simp)) ha
   have k5:k=5:=by omega
   simp only[bdG,bd2,if_pos k5] at *
   omega
  ·cases hi
 ·obtain⟨a,b,rfl⟩:=len2 (l:=l) (by omega)
  simp only[List.map_cons,List.map_nil,bdN,valN] at *
  split at hi
  ·rename_i hab
   obtain⟨ha,hb⟩:=hab
   rw[if_pos ⟨ha,hb⟩]
   obtain⟨c1,c2⟩:=hch a (by simp)
   obtain⟨d1,d2,d3,d4⟩:=ih a (by simp) c1 c2 (o2 a (by simp)) ha
   obtain⟨c3,c4⟩:=hch b (by simp)
   obtain⟨f1,f2,f3,f4⟩:=ih b (by simp) c3 c4 (o2 b (by simp)) hb
   have hbd:=tooB_false hi
   generalize intF ps a=A at *
   generalize intF ps b=B at *
   obtain⟨a1,a2,a3⟩:=A
   obtain⟨b1,b2,b3⟩:=B
   generalize valF o a=x at *
   generalize valF o b=y at *
   simp only at *
   have k5:¬k=5:=by omega
   by_cases k6:k=6
   ·simp only[bdG,bd2,if_neg k5,if_pos k6] at *;omega
   by_cases k7:k=7
   ·simp only[bdG,bd2,if_neg k5,if_neg k6,if_pos k7] at *;omega
   simp only[bdG,bd2,if_neg k5,if_neg k6,if_neg k7] at *
   obtain⟨g1,g2,g3,g4⟩:=hull4 (timesF a1 b1) (timesF a1 b2) (timesF a2 b1) (timesF a2 b2)
   have t1:=timesF_ok (a:=a1) (b:=b1) (by omega) (by omega)
   have t2:=timesF_ok (a:=a1) (b:=b2) (by omega) (by omega)
   have t3:=timesF_ok (a:=a2) (b:=b1) (by omega) (by omega)
   have t4:=timesF_ok (a:=a2) (b:=b2) (by omega) (by omega)
   rw[t1,t2,t3,t4] at hbd ⊢
   obtain⟨g1,g2,g3,g4⟩:=hull4 (a1 * b1) (a1 * b2) (a2 * b1) (a2 * b2)
   obtain⟨r1,r2⟩:=mul_hull d1 d2 f1 f2 g1 g2 g3 g4
   exact⟨r1,r2,hbd.1,hbd.2⟩
  ·cases hi
 ·omega
def truN (k:Int) (v:List Int) (b:List Bool):Bool :=
 if k=9 then decide (v.getD 0 0=v.getD 1 0) else if k=10 then !decide (v.getD 0 0=v.getD 1 0) else if k=11 then decide (v.getD 0 0<v.getD 1 0) else if k=12 then decide (v.getD 0 0≤v.getD 1 0) else
 if k=13 then true else if k=14 then false else if k=15 then !b.getD 0 false else if k=16 then b.getD 0 false && b.getD 1 false else b.getD 0 false || b.getD 1 false
mutual
def truF (o:Obs):Pd→Bool
 | .mk k _ _ _ _ l=>truN k (valL o l) (truL o l)
def truL (o:Obs):List Pd→List Bool
 | []=>[]
 | x :: r=>truF o x :: truL o r
end
theorem truL_map (o:Obs):∀l,truL o l=l.map (truF o)
 | []=>by rw[truL];rfl
 | x :: r=>by rw[truL,truL_map o r];rfl
theorem truF_mk (o:Obs) (k n p q:Int) (s:ByteArray) (l:List Pd):truF o (.mk k n p q s l)=truN k (l.map (valF o)) (l.map (truF o)):=by rw[truF,truL_map,valL_map]
theorem child_bool {ps:List Pr} {k n p q:Int} {s:ByteArray} {l:List Pd} (h:okT ps (.mk k n p q s l)=true) (hk:13≤k):∀x ∈ l,okT ps x=true∧9≤x.kind:=by
 intro x hx
 obtain⟨h1,h2⟩:=(okT_sub h).2.2.2 x hx
 refine⟨h1,?_⟩
 unfold needF at h2
 rw[if_neg (by omega)] at h2
 unfold resF at h2
 split at h2 <;> omega
def tempB:Pd→Bool | .mk k _ _ _ _ _=>decide (18≤k∧k≤21)
def ntmB (x:Pd):Bool:=!tempB x
noncomputable def checkF (ps:List Pr) (t:Pd):Int:=if (validF ps && formedB t)=false then 1 else if allB (resB ps) t=false then 13 else if typedB t=false then 14 else if fitB ps t=false then 9 else 0
theorem checkF_zero {ps:List Pr} {t:Pd} (h:checkF ps t=0):validF ps=true∧formedB t=true∧okT ps t=true∧fitB ps t=true:=by
 unfold checkF at h
 split at h
 ·cases h
 ·rename_i h1
  split at h
  ·cases h
  ·rename_i h2
   split at h
   ·cases h
   ·rename_i h3
    split at h
    ·cases h
    ·rename_i h4
     have h1:(validF ps && formedB t)=true:=by simpa using h1
     rw[Bool.and_eq_true] at h1
     refine⟨h1.1,h1.2,?_,by simpa using h4⟩
     unfold okT
     have h5:=h1.2
     unfold formedB at h5
     simp only[Bool.and_eq_true] at h5 ⊢
     exact⟨⟨h5.2,by simpa using h2⟩,by unfold typedB at h3;simpa using h3⟩
def lclB (pr:Int):Pd→Bool
 | .mk k _ p _ _ _=>if k=4∨(18≤k∧k≤21) then false else if k=2∨k=3 then decide (p=pr) else true
noncomputable def lclF (ps:List Pr) (pr k:Int) (t:Pd):Int :=
 if checkF ps t ≠ 0 then checkF ps t else if ¬(0≤pr∧pr<ps.length∧0≤k∧k≤evN ps pr) then 2 else if t.kind≤8 then 14 else if allB (lclB pr) t=false then 15 else 0
def cutO (ps:List Pr) (c:List Int) (ch:Int→Int→Int):Obs:=⟨fun p s=>match ps[p.toNat]? with|some x=>(stateAt x (c.getD p.toNat 0).toNat).getD (varIx x.vars s).toNat 0|none=>0,fun p=>c.getD p.toNat 0,ch⟩
def stC (n p:Nat) (k:Int):List Int:=(List.replicate n 0).set p k
def stO (ps:List Pr) (p:Nat) (k:Int):Obs:=cutO ps (stC ps.length p k) fun _ _=>0
def lclT (ps:List Pr) (p:Nat) (t:Pd) (k:Int):Bool:=truF (stO ps p k) t
def truthsF (ps:List Pr) (p:Nat) (t:Pd):List Bool:=(List.range ((evN ps p).toNat+1)).map fun (k:Nat)=>lclT ps p t k
theorem intF_le (ps:List Pr) (t:Pd):(intF ps t).1≤(intF ps t).2.1:=by
 induction t using Pd.ind with
 | _ k n p q s l ih =>
 rw[intF_mk]
 have hv:∀(v:Nat) (x:Pr),minL (valsF x v)≤maxL (valsF x v):=fun v x=>by
  have h:=valsF_mem x v (Nat.zero_le x.evs.length)
  have:=minL_le h;have:=le_maxL h;omega
 have h4:∀a b c d:Int,minL [a,b,c,d]≤maxL [a,b,c,d]:=fun a b c d=>by have:=(hull4 a b c d).1;omega
 have h2:∀a b:Bd,a.1≤a.2.1→b.1≤b.2.1→(bd2 k a b).1≤(bd2 k a b).2:=fun a b ha hb=>by
  unfold bd2
  split
  ·simp only;omega
  ·split
   ·simp only;omega
   ·split
    ·simp only;omega
    ·exact h4 _ _ _ _
 match l,ih with
 | [],_ =>
  simp only[List.map_nil,bdN,bdG]
  unfold bdL
  split
  ·exact Int.le_refl _
  ·split
   ·simp only[evN];split <;> omega
   ·split
    ·simp only[msgN];split <;> omega
    ·simp only[varLo,varHi];split
     ·exact hv _ _
     ·exact Int.le_refl _
 | [a],ih =>
  simp only[List.map_cons,List.map_nil,bdN]
  split
  ·exact h2 _ _ (ih a (by simp)) (ih a (by simp))
  ·exact Int.le_refl _
 | a :: b :: r,ih =>
  simp only[List.map_cons,bdN]
  split
  ·exact h2 _ _ (ih a (by simp)) (ih b (by simp))
  ·exact Int.le_refl _
theorem intF_ok (ps:List Pr) (t:Pd) (h:(intF ps t).2.2=true):(-1125899906842624≤(intF ps t).1∧(intF ps t).1≤1125899906842624) ∧ -1125899906842624≤(intF ps t).2.1∧(intF ps t).2.1≤1125899906842624:=by
 have hle:=intF_le ps t
 obtain⟨k,n,p,q,s,l⟩:=t
 rw[intF_mk] at *
 have hg:∀i:Int × Int,(bdG i).2.2=true → -1125899906842624≤(bdG i).1∧(bdG i).2.1≤1125899906842624:=fun i hi=>tooB_false hi
 match l with
 | []=>have:=hg _ h;simp only[List.map_nil,bdN] at *;omega
 | [a] =>
  simp only[List.map_cons,List.map_nil,bdN] at *
  split at h
  ·rename_i e;rw[if_pos e] at *;have:=hg _ h;omega
  ·cases h
 | a :: b :: r =>
  simp only[List.map_cons,bdN] at *
  split at h
  ·rename_i e;rw[if_pos e] at *;have:=hg _ h;omega
  ·cases h
def aIv (a b:Int):AV:=.agg [ai a,ai b]
def aBd (x:Bd):AV:=.tup [aIv x.1 x.2.1,ab x.2.2]
theorem quo_eq {a b:Int} (ha:0≤a) (ha':a≤1125899906842624) (hb:0<b):IntKind.i64.wrap (a.tdiv b)=a / b:=by
 rw[Int.tdiv_eq_ediv_of_nonneg ha]
 have h1:0≤a / b:=Int.ediv_nonneg ha (Int.le_of_lt hb)
 have h2:a / b≤a:=Int.ediv_le_self b ha
 exact wrap_i64 (by unfold I64;omega)
theorem mul_small {a b:Int} (hb:b ≠ 0) (h:¬1125899906842624 / absF b<absF a) : -1125899906842624≤a * b∧a * b≤1125899906842624:=by
 rw[absF_eq,absF_eq] at h
 have hb':(0:Int)<(b.natAbs:Int):=by omega
 have h1:(a.natAbs:Int) * (b.natAbs:Int)≤1125899906842624:=(Int.le_ediv_iff_mul_le hb').1 (by omega)
 have h2:((a * b).natAbs:Int)=(a.natAbs:Int) * (b.natAbs:Int):=by rw[Int.natAbs_mul];rfl
 omega
theorem mulW_eq {a b:Int} (h:I64 (a * b)):mulW a b=a * b:=wrap_i64 h
theorem predtype_abs (a:Int) (ha : -1125899906842625≤a∧a≤1125899906842625):PC Proofs.Tryz.prog 230 [ai a] (ai (absF a)):=by
 have hsp:absF a=if a < -a then -a else a:=rfl
 generalize absF a=x at *
 refine PC.enter 7 [.tmp 2] [] Proofs.Tryz.func230 rfl rfl rfl rfl rfl (by simp) (AWp.of ?_);simp only[go_sem]
 refine Wk ?_
 refine ret_eq ?_;simp only[go_sem]
 rw[hsp]
theorem predtype_product (a b:Int) (ha : -1125899906842625≤a∧a≤1125899906842625) (hb : -1125899906842625≤b∧b≤1125899906842625):PC Proofs.Tryz.prog 204 [ai a,ai b] (ai (timesF a b)):=by
 have h1:=predtype_abs a ha
 have h2:=predtype_abs b hb
 have hsp:timesF a b=if a=0∨b=0 then 0 else if 1125899906842624 / absF b<absF a then (if (decide (a<0) != decide (b<0))=true then -1125899906842625 else 1125899906842625) else a * b:=rfl
 have hms:=fun h=>mul_small (a:=a) (b:=b) h
 have hpos:b ≠ 0→0<absF b:=fun h=>by rw[absF_eq];omega
 have hquo:=fun h=>quo_eq (a:=1125899906842624) (b:=absF b) (by decide) (by decide) h
 have hmw:=fun h=>mulW_eq (a:=a) (b:=b) h
 generalize timesF a b=r at *
 generalize absF a=A at *
 generalize absF b=B at *
 refine PC.enter 29 [.tmp 4] [] Proofs.Tryz.func204 rfl rfl rfl rfl rfl (by simp) (AWp.of ?_);simp only[go_sem]
 refine Wk ?_
 refine⟨fun h3 => ?_,fun h3 => ?_⟩
 ·refine Wk ?_
  refine ret_eq ?_;simp only[go_sem]
  rw[hsp,if_pos h3]
 intro h3'
 rw[if_neg (by intro h;rcases h with h|h;exact h3 h;exact h3' h)] at hsp
 have hB:=hpos h3'
 have hq:=hquo hB
 refine Wk ?_
 refine Sd ?_
 refine(h1).val.use ?_;simp only[go_sem]
 refine Wk ?_
 refine Sd ?_
 refine(h2).val.use ?_;simp only[go_sem]
 refine W1 hq ?_
 refine⟨fun h4 => ?_,fun h4 => ?_⟩
 ·rw[if_pos h4] at hsp
  refine Wk ?_
  refine Wk ?_
  refine⟨fun h5 => ?_,fun h5 => ?_⟩
  ·refine Wk ?_
   refine ret_eq ?_;simp only[go_sem]
   rw[hsp,if_pos (by simpa using h5)]
  ·refine Wk ?_
   refine ret_eq ?_;simp only[go_sem]
   rw[hsp,if_neg (by simpa using h5)]
 rw[if_neg h4] at hsp
 have hm:=hms h3' h4
 refine Wk ?_
 refine ret_eq ?_;simp only[go_sem]
 rw[hsp,hmw (by unfold I64;omega)]
theorem ints_minL (l:List Int) (hl:l.length≤2000000) (h0:0<l.length):PC Proofs.Tryz.prog 228 [aInts l] (ai (minL l)):=by
 have hg0:=getD_map (f:=ai) h0
 have hm1:minL (l.take 1)=l[0]:=by cases l with|nil=>simp at h0|cons a r=>rfl
 have hfull:minL (l.take l.length)=minL l:=by rw[List.take_length]
 generalize minL l=res at *
 refine PC.enter 25 [.tmp 2] [] Proofs.Tryz.func228 rfl rfl rfl rfl rfl (by simp) (AWp.of ?_);simp only[go_sem]
 refine Wk ?_
 intro _
 refine W1 hg0 ?_
 refine AWp.block (AWp.loopN [3,4] [0] (fun m vs L=>∃i:Nat,1≤i∧i≤l.length∧m=l.length - i∧L=[]∧vs=[ai (minL (l.take i)),ai i]) (l.length - 1) ⟨1,by omega,by omega,rfl,rfl,by rw[hm1];rfl⟩ ?_)
 rintro m vs L - ⟨i,i1,i2,rfl,rfl,rfl⟩
 simp only[go_sem]
 refine Wk ?_
 refine⟨fun h3 => ?_,fun h3 => ?_⟩
 ·have hil:i<l.length:=by omega
  have hg:=getD_map (f:=ai) hil
  have ht:=minL_take (l:=l) (by omega) hil
  refine W1 hg ?_
  refine⟨_,List.Sublist.refl _,l.length - (i+1),by omega,i+1,by omega,by omega,rfl,rfl,?_⟩
  rw[ht];rfl
 ·refine Wk ?_
  refine ret_eq ?_;simp only[go_sem]
  rw[← hfull,show i=l.length by omega]
theorem ints_maxL (l:List Int) (hl:l.length≤2000000) (h0:0<l.length):PC Proofs.Tryz.prog 229 [aInts l] (ai (maxL l)):=by
 have hg0:=getD_map (f:=ai) h0
 have hm1:maxL (l.take 1)=l[0]:=by cases l with|nil=>simp at h0|cons a r=>rfl
 have hfull:maxL (l.take l.length)=maxL l:=by rw[List.take_length]
 generalize maxL l=res at *
 refine PC.enter 25 [.tmp 2] [] Proofs.Tryz.func229 rfl rfl rfl rfl rfl (by simp) (AWp.of ?_);simp only[go_sem]
 refine Wk ?_
 intro _
 refine W1 hg0 ?_
 refine AWp.block (AWp.loopN [3,4] [0] (fun m vs L=>∃i:Nat,1≤i∧i≤l.length∧m=l.length - i∧L=[]∧vs=[ai (maxL (l.take i)),ai i]) (l.length - 1) ⟨1,by omega,by omega,rfl,rfl,by rw[hm1];rfl⟩ ?_)
 rintro m vs L - ⟨i,i1,i2,rfl,rfl,rfl⟩
 simp only[go_sem]
 refine Wk ?_
 refine⟨fun h3 => ?_,fun h3 => ?_⟩
 ·have hil:i<l.length:=by omega
  have hg:=getD_map (f:=ai) hil
  have ht:=maxL_take (l:=l) (by omega) hil
  refine W1 hg ?_
  refine⟨_,List.Sublist.refl _,l.length - (i+1),by omega,i+1,by omega,by omega,rfl,rfl,?_⟩
  rw[ht];rfl
 ·refine Wk ?_
  refine ret_eq ?_;simp only[go_sem]
  rw[← hfull,show i=l.length by omega]
theorem predtype_hull (l:List Int) (hl:l.length≤2000000) (h0:0<l.length):PC Proofs.Tryz.prog 203 [aInts l] (aIv (minL l) (maxL l)):=by
 have h1:=ints_minL l hl h0
 have h2:=ints_maxL l hl h0
 generalize minL l=a at *
 generalize maxL l=b at *
 refine PC.enter 8 [.cell 2 211] [] Proofs.Tryz.func203 rfl rfl rfl rfl rfl (by simp) (AWp.of ?_);simp only[go_sem]
 refine Wk ?_
 intro b2
 refine Wk ?_
 refine Sd ?_
 refine(h1).val.use ?_;simp only[go_sem]
 refine Wk ?_
 refine Sd ?_
 refine(h2).val.use ?_;simp only[go_sem]
 refine Wk ?_
 refine ret_eq ?_;simp only[go_sem]
 rfl
theorem countP_take {l:List Ev} {f:Ev→Bool} {k:Nat} (hk:k<l.length):((l.take (k+1)).countP f:Int)=(l.take k).countP f+if f l[k]=true then 1 else 0:=by
 rw[List.take_succ_eq_append_getElem hk,List.countP_append,List.countP_cons,List.countP_nil]
 split <;> simp
theorem msgN_get {ps:List Pr} {p:Nat} (hp:p<ps.length) (q:Int):msgN ps p q=(ps[p].evs.countP (sentTo q):Int):=by unfold msgN;simp only[Int.toNat_natCast,List.getElem?_eq_getElem hp]
theorem evN_get {ps:List Pr} {p:Nat} (hp:p<ps.length):evN ps p=ps[p].evs.length:=by unfold evN;simp only[Int.toNat_natCast,List.getElem?_eq_getElem hp]
theorem predtype_messages (ps:List Pr) (hs:Sm ps) (p:Int) (hpb:isPB ps.length p=true) (q:Int):PC Proofs.Tryz.prog 226 [aTr ps,ai p,ai q] (ai (msgN ps p q)):=by
 obtain⟨p,rfl,hp⟩:=isPB_nat hpb
 have hm:=List.getElem_mem hp
 have hel:=hs.evs _ hm
 have hgp:=getD_map (f:=aPr) hp
 rw[msgN_get hp]
 refine PC.enter 34 [.tmp 6] [3,9] Proofs.Tryz.func226 rfl rfl rfl rfl rfl (by simp) (AWp.of ?_);simp only[go_sem]
 refine W1 hgp ?_
 refine AWp.range' ps[p].evs.length [7] [2,15,16] (fun k vs L=>L=[]∧vs=[ai ((ps[p].evs.take k).countP (sentTo q):Int)]) (by omega) rfl rfl rfl ⟨rfl,rfl⟩ ?_ ?_
 ·rintro k vs L' hk - ⟨rfl,rfl⟩
  have hge:=getD_map (f:=aEv) hk
  have hst:=countP_take (f:=sentTo q) hk
  have hcl:(ps[p].evs.take k).countP (sentTo q)≤ps[p].evs.length:=Nat.le_trans List.countP_le_length (by rw[List.length_take];omega)
  have hsp:sentTo q ps[p].evs[k]=(decide (ps[p].evs[k].kind=2) && decide (ps[p].evs[k].peer=q)):=rfl
  generalize ps[p].evs[k]=e at *
  simp only[go_sem]
  refine W1 hge ?_
  intro b9
  refine Wk ?_
  refine⟨fun h1 => ?_,fun h1 => ?_⟩
  ·intro h2
   refine Wk ?_
   refine⟨_,List.Sublist.refl _,rfl,?_⟩
   rw[hst,hsp,decide_eq_true h1,decide_eq_true h2]
   try rfl
  ·refine⟨_,List.Sublist.refl _,rfl,?_⟩
   rw[hst,hsp,if_neg (by simp only[Bool.and_eq_true,decide_eq_true_eq];exact fun h=>h1 h.1 h.2),Int.add_zero]
 ·rintro vs L' - ⟨rfl,rfl⟩
  simp only[go_sem]
  refine Wk ?_
  refine ret_eq ?_;simp only[go_sem]
def aView (ps:List Pr) (c:List Int) (V:List (List Int)):AV:=.agg [aPrs ps,aInts c,aRows V]
theorem view_variable1 (v:ByteArray × Int) (k n p q:Int) (s:ByteArray) (l:List Pd):PC Proofs.Tryz.prog 207 [aVar v,.rp 6 [aPd (.mk k n p q s l)] 0 0] (ab (nmB s v)):=by
 generalize hb:nmB s v=b
 refine PC.enter 9 [.tmp 3] [2] Proofs.Tryz.func207 rfl rfl rfl rfl rfl (by simp) (AWp.of ?_);simp only[go_sem]
 refine Wk ?_
 refine ret_eq ?_;simp only[go_sem]
 rw[← hb];rfl
theorem view_variable (ps:List Pr) (hs:Sm ps) (c:List Int) (V:List (List Int)) (k n:Int) (p:Nat) (q:Int) (s:ByteArray) (l:List Pd) (hp:p<ps.length) (hkn:knownB ps p s=true)
  (hV:p<V.length) (hr:V[p].length=ps[p].vars.length) :
  PC Proofs.Tryz.prog 162 [aView ps c V,aPd (.mk k n p q s l)] (ai (V[p].getD (varIx ps[p].vars s).toNat 0)):=by
 have hm:=List.getElem_mem hp
 have hk:=known_get hp hkn
 obtain⟨i,hi,hil⟩:=known_ix hk
 have hfi:PC Proofs.Tryz.prog 206 [aVars ps[p].vars,.clo 207 [.rp 6 [aPd (.mk k n p q s l)] 0 0]] (ai (varIx ps[p].vars s)) :=
  vars_indexFunc ps[p].vars (hs.vars _ hm) (.clo 207 [.rp 6 [aPd (.mk k n p q s l)] 0 0]) rfl (nmB s) fun v _=>(view_variable1 v k n p q s l).clo
 rw[hi] at hfi ⊢
 rw[Int.toNat_natCast]
 have hgp:=getD_map (f:=aPr) hp
 have hgV:=getD_map (f:=aInts) hV
 have hgr:=getD_map (f:=ai) (l:=V[p]) (k:=i) (by omega)
 have hres:V[p].getD i 0=V[p][i]'(by omega):=by rw[List.getD_eq_getElem?_getD,List.getElem?_eq_getElem (by omega)];rfl
 rw[hres]
 generalize V[p][i]'(by omega)=w at *
 have hrl:i<V[p].length:=by omega
 unfold aView
 simp only[aPd_mk] at *
 refine PC.enter 25 [.tmp 4] [2,3] Proofs.Tryz.func162 rfl rfl rfl rfl rfl (by simp) (AWp.of ?_);simp only[go_sem]
 refine W1 hgp ?_
 refine Sd ?_
 refine(hfi).val.use ?_;simp only[go_sem]
 refine W2 hgV hgr ?_
 refine ret_eq ?_;simp only[go_sem]
def leafOk (ps:List Pr) (c:List Int) (V:List (List Int)) (o:Obs):Pd→Prop
 | .mk k n p q s l=>(k=2→PC Proofs.Tryz.prog 162 [aView ps c V,aPd (.mk k n p q s l)] (ai (o.var p s)))∧(k=3→0≤p∧c[p.toNat]?=some (o.cnt p)) ∧
  (k=4→PC Proofs.Tryz.prog 163 [aView ps c V,aPd (.mk k n p q s l)] (ai (o.chn p q)))
theorem bd_child {ps:List Pr} {k n p q:Int} {s:ByteArray} {l:List Pd} (h:(intF ps (.mk k n p q s l)).2.2=true) (hl:l.length≤2):∀x ∈ l,(intF ps x).2.2=true:=by
 rw[intF_mk] at h
 match l,hl with
 | [],_=>intro x hx;cases hx
 | [a],_ =>
  simp only[List.map_cons,List.map_nil,bdN] at h
  split at h
  ·rename_i e;intro x hx;simp at hx;subst hx;exact e
  ·cases h
 | [a,b],_ =>
  simp only[List.map_cons,List.map_nil,bdN] at h
  split at h
  ·rename_i e;intro x hx;simp at hx;rcases hx with rfl|rfl;exact e.1;exact e.2
  ·cases h
theorem view_number (ps:List Pr) (c:List Int) (V:List (List Int)) (o:Obs) (_hcl:c.length≤1000000) (t:Pd):szF t≤1000000→okT ps t=true→t.kind≤8→(intF ps t).2.2=true→AllP (obsB ps o) t→AllP (leafOk ps c V o) t →
  PC Proofs.Tryz.prog 111 [aView ps c V,aPd t] (ai (valF o t)):=by
 induction t using Pd.ind with
 | _ k n p q s l ih =>
 intro hz ht hk hi hob hlf
 have hbnd:=valF_bounds ps o _ ht hk hob hi
 obtain⟨o1,o2,o3,o4⟩:=okT_sub ht
 obtain⟨hpl,_⟩:=loc_len o1
 simp only[Pd.kind] at hk
 have hch:=child_le ht (show k≤12 by omega)
 have hsz:szF (.mk k n p q s l)=szL l+1:=by rw[szF]
 have hsp:=valF_mk o k n p q s l
 have hci:=bd_child hi
 obtain⟨⟨lf2,lf3,lf4⟩,hls⟩:=AllP_sub hlf
 obtain⟨_,hos⟩:=AllP_sub hob
 generalize valF o (.mk k n p q s l)=R at *
 have hb : -1125899906842624≤R∧R≤1125899906842624:=by omega
 clear hbnd hi
 unfold aView at *
 have hcb:=fun (x:Pd) (hx:x ∈ l) (h:l.length≤2)=>valF_bounds ps o x (hch x hx).1 (hch x hx).2 (hos x hx) (hci h x hx)
 rcases parts_cases k with ⟨e,hc⟩|⟨e,hc⟩|⟨e,hc⟩|e
 ·obtain rfl:=len0 (l:=l) (by omega)
  simp only[List.map_nil,valN,aPd_mk] at *
  have hk4:k=1∨k=2∨k=3∨k=4:=by omega
  rcases hk4 with h|h|h|h
  ·have hsp:R=n:=by rw[hsp,if_pos h]
   refine PC.enter 81 [.tmp 4] [2,3] Proofs.Tryz.func111 rfl rfl rfl rfl rfl (by simp) (AWp.of ?_);simp only[go_sem]
   repeat(first|((with_reducible refine AWp.ofC ?_ ?_);exact rfl;simp only[go_sem,(eq_true h)])|((with_reducible refine an ?_ ?_);exact Au))
   refine ret_eq ?_;simp only[go_sem]
   rw[hsp]
  ·have lf:=lf2 h
   have h1:¬k=1:=by omega
   rw[if_neg h1,if_pos h] at hsp
   refine PC.enter 81 [.tmp 4] [2,3] Proofs.Tryz.func111 rfl rfl rfl rfl rfl (by simp) (AWp.of ?_);simp only[go_sem]
   repeat(first|((with_reducible refine AWp.ofC ?_ ?_);exact rfl;simp only[go_sem,(eq_true h),h1])|((with_reducible refine an ?_ ?_);exact Au))
   refine Sd ?_
   refine(lf).val.use ?_;simp only[go_sem]
   refine Wk ?_
   refine ret_eq ?_;simp only[go_sem]
   rw[hsp]
  ·obtain⟨p0,pc⟩:=lf3 h
   obtain⟨hpc,hpe⟩:=List.getElem?_eq_some_iff.1 pc
   have hg:=getD_map (f:=ai) hpc
   have h1:¬k=1:=by omega
   have h2:¬k=2:=by omega
   rw[if_neg h1,if_neg h2,if_pos h] at hsp
   rw[hpe] at hg
   refine PC.enter 81 [.tmp 4] [2,3] Proofs.Tryz.func111 rfl rfl rfl rfl rfl (by simp) (AWp.of ?_);simp only[go_sem]
   repeat(first|((with_reducible refine AWp.ofC ?_ ?_);exact rfl;simp only[go_sem,(eq_true h),h1,h2,hg])|((with_reducible refine an ?_ ?_);exact Au))
   refine ret_eq ?_;simp only[go_sem]
   rw[hsp]
  ·have lf:=lf4 h
   have h1:¬k=1:=by omega
   have h2:¬k=2:=by omega
   have h3:¬k=3:=by omega
   rw[if_neg h1,if_neg h2,if_neg h3] at hsp
   refine PC.enter 81 [.tmp 4] [2,3] Proofs.Tryz.func111 rfl rfl rfl rfl rfl (by simp) (AWp.of ?_);simp only[go_sem]
   repeat(first|((with_reducible refine AWp.ofC ?_ ?_);exact rfl;simp only[go_sem,(eq_true h),h1,h2,h3])|((with_reducible refine an ?_ ?_);exact Au))
   refine Sd ?_
   refine(lf).val.use ?_;simp only[go_sem]
   refine Wk ?_
   refine ret_eq ?_;simp only[go_sem]
   rw[hsp]
 ·obtain⟨a,rfl⟩:=len1 (l:=l) (by omega)
  have h5:k=5:=by omega
  have h1:¬k=1:=by omega
  have h2:¬k=2:=by omega
  have h3:¬k=3:=by omega
  have h4:¬k=4:=by omega
  obtain⟨c1,c2⟩:=hch a (by simp)
  have hza:=szL_mem (l:=[a]) (x:=a) (by simp)
  have hca:=ih a (by simp) (by omega) c1 c2 (hci (by simp) a (by simp)) (hos a (by simp)) (hls a (by simp))
  have hcb:=hcb a (by simp) (by simp)
  simp only[List.map_cons,List.map_nil,valN] at hsp
  generalize valF o a=A at *
  obtain⟨ka,na,pa,qa,sa,la⟩:=a
  simp only[aPd_mk,List.map_cons,List.map_nil] at *
  refine PC.enter 81 [.tmp 4] [2,3] Proofs.Tryz.func111 rfl rfl rfl rfl rfl (by simp) (AWp.of ?_);simp only[go_sem]
  repeat(first|((with_reducible refine AWp.ofC ?_ ?_);exact rfl;simp only[go_sem,(eq_true h5),h1,h2,h3,h4])|((with_reducible refine an ?_ ?_);exact Au))
  repeat(first|(with_reducible refine AWp.seq ?_)|(with_reducible refine AWp.block ?_))
  refine AWp.mix mixed [0,1,2,3,4,5,6,7] .done (by kernel_rfl) ?_;simp only[go_sem]
  refine Sd ?_
  refine Gc hca ?_
  refine Sd ?_
  refine Wk ?_
  refine ret_eq ?_;simp only[go_sem]
  rw[hsp]
 ·obtain⟨a,b,rfl⟩:=len2 (l:=l) (by omega)
  have h1:¬k=1:=by omega
  have h2:¬k=2:=by omega
  have h3:¬k=3:=by omega
  have h4:¬k=4:=by omega
  have h5:¬k=5:=by omega
  obtain⟨c1,c2⟩:=hch a (by simp)
  obtain⟨c3,c4⟩:=hch b (by simp)
  have hza:=szL_mem (l:=[a,b]) (x:=a) (by simp)
  have hzb:=szL_mem (l:=[a,b]) (x:=b) (by simp)
  have hca:=ih a (by simp) (by omega) c1 c2 (hci (by simp) a (by simp)) (hos a (by simp)) (hls a (by simp))
  have hcc:=ih b (by simp) (by omega) c3 c4 (hci (by simp) b (by simp)) (hos b (by simp)) (hls b (by simp))
  have hcba:=hcb a (by simp) (by simp)
  have hcbb:=hcb b (by simp) (by simp)
  simp only[List.map_cons,List.map_nil,valN] at hsp
  have hmw:=fun h=>mulW_eq (a:=valF o a) (b:=valF o b) h
  generalize valF o a=A at *
  generalize valF o b=B at *
  obtain⟨ka,na,pa,qa,sa,la⟩:=a
  obtain⟨kb,nb,pb,qb,sb,lb⟩:=b
  simp only[aPd_mk,List.map_cons,List.map_nil] at *
  refine PC.enter 81 [.tmp 4] [2,3] Proofs.Tryz.func111 rfl rfl rfl rfl rfl (by simp) (AWp.of ?_);simp only[go_sem]
  by_cases h6:k=6
  ·rw[if_pos h6] at hsp
   repeat(first|((with_reducible refine AWp.ofC ?_ ?_);exact rfl;simp only[go_sem,(eq_true h6),h1,h2,h3,h4,h5])|((with_reducible refine an ?_ ?_);exact Au))
   repeat(first|(with_reducible refine AWp.seq ?_)|(with_reducible refine AWp.block ?_))
   refine AWp.mix mixed [0,1,2,3,4,5,6,7,8,9,10,11,12,13] .done (by kernel_rfl) ?_;simp only[go_sem]
   refine Sd ?_
   refine Gc hca ?_
   refine Sd ?_
   refine Gc hcc ?_
   refine Sd ?_
   refine Wk ?_
   refine ret_eq ?_;simp only[go_sem]
   rw[hsp]
  by_cases h7:k=7
  ·rw[if_neg h6,if_pos h7] at hsp
   repeat(first|((with_reducible refine AWp.ofC ?_ ?_);exact rfl;simp only[go_sem,(eq_true h7),h1,h2,h3,h4,h5,h6])|((with_reducible refine an ?_ ?_);exact Au))
   repeat(first|(with_reducible refine AWp.seq ?_)|(with_reducible refine AWp.block ?_))
   refine AWp.mix mixed [0,1,2,3,4,5,6,7,8,9,10,11,12,13] .done (by kernel_rfl) ?_;simp only[go_sem]
   refine Sd ?_
   refine Gc hca ?_
   refine Sd ?_
   refine Gc hcc ?_
   refine Sd ?_
   refine Wk ?_
   refine ret_eq ?_;simp only[go_sem]
   rw[hsp]
  rw[if_neg h6,if_neg h7] at hsp
  have hmw:=hmw (by rw[← hsp];unfold I64;omega)
  repeat(first|((with_reducible refine AWp.ofC ?_ ?_);exact rfl;simp only[go_sem,h1,h2,h3,h4,h5,h6,h7])|((with_reducible refine an ?_ ?_);exact Au))
  refine AWp.seq ?_
  repeat(first|(with_reducible refine AWp.seq ?_)|(with_reducible refine AWp.block ?_))
  refine AWp.mix mixed [0,1,2,3,4,5,6,7,8,9,10,11,12,13] .done (by kernel_rfl) ?_;simp only[go_sem]
  refine Sd ?_
  refine Gc hca ?_
  refine Sd ?_
  refine Gc hcc ?_
  refine Sd ?_
  refine W1 hmw ?_
  refine ret_eq ?_;simp only[go_sem]
  rw[hsp]
 ·omega
end Go.AL
end
