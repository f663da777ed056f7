/- Texts of this claim's proof: WPf, WPw, WSl, WPc, WTr1, WTr2, WTr3, WEv. No condition. -/
import Derived.Test.YtbdofbhocjfbfaaGreatDoorM4
section
namespace Go.AL
open Go Go.RowKit
set_option maxRecDepth 4000
def findS {S:Type} (step:Pd→S→Bool × S):List Pd→S→Option Nat × S
 | [],s=>(none,s)
 | x :: r,s=>if (step x s).1 then (some 0,(step x s).2) else ((findS step r (step x s).2).1.map (· + 1),(findS step r (step x s).2).2)
def idxA (o:Option Nat):Int:=match o with|some i=>i|none => -1
theorem findS_step {S:Type} (step:Pd→S→Bool × S) {l:List Pd} {s s':S} {k:Nat} (hk:k<l.length) (h:findS step l s=((findS step (l.drop k) s').1.map (· + k),(findS step (l.drop k) s').2)) :
  ((step l[k] s').1=true→findS step l s=(some k,(step l[k] s').2)) ∧
  ((step l[k] s').1=false→findS step l s=((findS step (l.drop (k+1)) (step l[k] s').2).1.map (· + (k+1)),(findS step (l.drop (k+1)) (step l[k] s').2).2)):=by
 rw[List.drop_eq_getElem_cons hk,findS] at h
 refine⟨fun e => ?_,fun e => ?_⟩
 ·rw[if_pos e] at h;rw[h];simp
 ·rw[if_neg (by rw[e];decide)] at h;rw[h];simp only[Option.map_map]
  congr 2
  funext i;simp only[Function.comp];omega
theorem preds_indexS {S:Type} (step:Pd→S→Bool × S) (Ls:S→AHeap) (Inv:S→Prop) (l:List Pd) (hl:l.length≤1000000) (g:AV) (hgf:fo g=(True,g))
  (hg:∀x ∈ l,∀s,Inv s→MVal Proofs.Tryz.prog g [aPd x] (Ls s) fun r L=>r=ab (step x s).1∧L=Ls (step x s).2) (hi:∀x ∈ l,∀s,Inv s→(step x s).1=false→Inv (step x s).2) (s:S) (hs:Inv s) :
  MCalls Proofs.Tryz.prog 69 [.sl 6 (l.map aPd),g] (Ls s) fun r L=>r=ai (idxA (findS step l s).1)∧L=Ls (findS step l s).2:=by
 refine MCalls.enter' 19 [.tmp 4] [] Proofs.Tryz.func69 rfl rfl rfl rfl rfl (by simp) (AWp.of ?_);simp only[go_sem]
 refine Sd ?_
 refine AWp.of ?_;simp only[go_sem]
 refine AWp.range' l.length [] [0,1,7] (fun k vs L=>∃s',L=Ls s'∧Inv s'∧findS step l s=((findS step (l.drop k) s').1.map (· + k),(findS step (l.drop k) s').2)) (by omega) rfl rfl rfl ⟨s,rfl,hs,by simp⟩ ?_ ?_
 ·rintro k vs L' hk hvs ⟨s',rfl,hI,hf⟩
  obtain⟨f1,f2⟩:=findS_step step hk hf
  have hm:=List.getElem_mem hk
  have hgk:=hg l[k] hm s' hI
  have hik:=hi l[k] hm s' hI
  have hgi:=getD_map (f:=aPd) hk
  generalize l[k]=x at *
  generalize step x s'=st at *
  obtain⟨k2,n2,p2,q2,s2,l2⟩:=x
  simp only[aPd_mk] at hgi hgk
  simp only[go_sem]
  refine Sd ?_
  refine AWp.of ?_;simp only[go_sem]
  refine Sd ?_
  refine AWp.of ?_;simp only[go_sem,hgi,hgf]
  refine Sd ?_
  refine hgk.mono ?_
  rintro r L'' ⟨rfl,rfl⟩
  simp only[go_sem]
  refine Wk ?_
  refine⟨fun ht => ?_,fun hf' => ?_⟩
  ·refine Wk ?_
   refine ret_own ?_
   simp only[go_sem]
   rw[f1 ht];exact⟨rfl,rfl⟩
  ·refine Wk ?_
   exact⟨_,List.Sublist.refl _,_,rfl,hik hf',f2 hf'⟩
 ·rintro vs L' hvs ⟨s',rfl,hI,hf⟩
  simp only[go_sem]
  refine Wk ?_
  refine ret_own ?_
  simp only[go_sem]
  rw[hf,List.drop_length];exact⟨rfl,rfl⟩
theorem preds_containsS {S:Type} (step:Pd→S→Bool × S) (Ls:S→AHeap) (Inv:S→Prop) (l:List Pd) (hl:l.length≤1000000) (g:AV) (hgf:fo g=(True,g))
  (hg:∀x ∈ l,∀s,Inv s→MVal Proofs.Tryz.prog g [aPd x] (Ls s) fun r L=>r=ab (step x s).1∧L=Ls (step x s).2) (hi:∀x ∈ l,∀s,Inv s→(step x s).1=false→Inv (step x s).2) (s:S) (hs:Inv s) :
  MCalls Proofs.Tryz.prog 34 [.sl 6 (l.map aPd),g] (Ls s) fun r L=>r=ab ((findS step l s).1.isSome)∧L=Ls (findS step l s).2:=by
 have h:=preds_indexS step Ls Inv l hl g hgf hg hi s hs
 generalize findS step l s=o at *
 have ho:0≤idxA o.1↔o.1.isSome=true:=by cases o.1 <;> simp [idxA]
 refine MCalls.enter' 9 [.tmp 4] [] Proofs.Tryz.func34 rfl rfl rfl rfl rfl (by simp) (AWp.of ?_);simp only[go_sem]
 refine Sd ?_
 refine AWp.of ?_;simp only[go_sem,hgf]
 refine h.val.mono ?_
 rintro r L'' ⟨rfl,rfl⟩
 simp only[go_sem]
 refine Wk ?_
 refine ret_own ?_
 simp only[go_sem]
 congr 2
 rw[Bool.eq_iff_iff,decide_eq_true_iff];exact ho
theorem findS_any (p:Pd→Bool):∀l:List Pd,(findS (fun x (_:Unit)=>(p x,())) l ()).1.isSome=l.any p
 | []=>rfl
 | x :: r=>by
  rw[findS,List.any_cons]
  by_cases h:p x=true
  ·simp [h]
  ·have:=findS_any p r
   simp only[h,Bool.false_eq_true,if_false,Bool.false_or]
   rw[← this];simp
theorem preds_containsFunc (l:List Pd) (hl:l.length≤1000000) (g:AV) (hgf:fo g=(True,g)) (p:Pd→Bool) (hg:∀x ∈ l,PV Proofs.Tryz.prog g [aPd x] (ab (p x))) :
  PC Proofs.Tryz.prog 34 [.sl 6 (l.map aPd),g] (ab (l.any p)):=by
 have h:=preds_containsS (fun x (_:Unit)=>(p x,())) (fun _=>[]) (fun _=>True) l hl g hgf (fun x hx s _=>hg x hx) (fun _ _ _ _ _=>trivial) () trivial
 rw[findS_any] at h
 exact h
def resF (k:Int):Int:=if k≤8 then 1 else 2
def needF (k:Int):Int:=if k≤12 then 1 else 2
theorem predtype_result (k:Int):PC Proofs.Tryz.prog 100 [ai k] (ai (resF k)):=by
 refine PC.enter 5 [.tmp 2] [] Proofs.Tryz.func100 rfl rfl rfl rfl rfl (by simp) (AWp.of ?_);simp only[go_sem]
 refine Wk ?_
 refine Wk ?_
 refine⟨fun h1 => ?_,fun h1 => ?_⟩
 ·refine Wk ?_
  refine ret_eq ?_;simp only[go_sem]
  unfold resF;rw[if_pos h1]
 ·refine Wk ?_
  refine ret_eq ?_;simp only[go_sem]
  unfold resF;rw[if_neg h1]
theorem predtype_need (k:Int):PC Proofs.Tryz.prog 136 [ai k] (ai (needF k)):=by
 refine PC.enter 5 [.tmp 2] [] Proofs.Tryz.func136 rfl rfl rfl rfl rfl (by simp) (AWp.of ?_);simp only[go_sem]
 refine Wk ?_
 refine Wk ?_
 refine⟨fun h1 => ?_,fun h1 => ?_⟩
 ·refine Wk ?_
  refine ret_eq ?_;simp only[go_sem]
  unfold needF;rw[if_pos h1]
 ·refine Wk ?_
  refine ret_eq ?_;simp only[go_sem]
  unfold needF;rw[if_neg h1]
def tyNe (k m:Int):Bool:=decide (¬resF m=needF k)
def typB:Pd→Bool
 | .mk k _ _ _ _ l => !l.any fun x=>tyNe k x.kind
theorem predtype_typed11 (k n p q:Int) (s:ByteArray) (l:List Pd) (x:Pd):PC Proofs.Tryz.prog 135 [aPd x,.rp 6 [aPd (.mk k n p q s l)] 0 0] (ab (tyNe k x.kind)):=by
 have hr:=predtype_result x.kind
 have hn:=predtype_need k
 obtain⟨k2,n2,p2,q2,s2,l2⟩:=x
 simp only[Pd.kind] at *
 have hsp:tyNe k k2=decide (¬resF k2=needF k):=rfl
 generalize tyNe k k2=b at *
 generalize hr0:resF k2=r at *
 generalize hm0:needF k=m at *
 refine PC.enter 11 [.tmp 3] [2] Proofs.Tryz.func135 rfl rfl rfl rfl rfl (by simp) (AWp.of ?_);simp only[go_sem]
 refine AWp.seq ?_
 repeat(first|(with_reducible refine AWp.seq ?_)|(with_reducible refine AWp.block ?_))
 refine AWp.mix mixed [0,1,2,3,4,5,6,7] .done (by kernel_rfl) ?_;simp only[go_sem]
 refine Sd ?_
 refine Gc hr ?_
 refine Sd ?_
 refine Gc hn ?_
 refine Sd ?_
 refine Wk ?_
 refine ret_eq ?_;simp only[go_sem]
 rw[hsp,decide_not]
theorem predtype_typed1 (x:Pd) (hz:szF x≤1000000):PC Proofs.Tryz.prog 134 [aPd x] (ab (typB x)):=by
 obtain⟨k,n,p,q,s,l⟩:=x
 have hll:=szL_len l
 rw[szF] at hz
 have hc:=preds_containsFunc l (by omega) (.clo 135 [.rp 6 [aPd (.mk k n p q s l)] 0 0]) rfl (fun x=>tyNe k x.kind) fun x _=>(predtype_typed11 k n p q s l x).clo
 have hsp:typB (.mk k n p q s l) = !l.any fun x=>tyNe k x.kind:=rfl
 rw[hsp]
 generalize (l.any fun x=>tyNe k x.kind)=b at *
 simp only[aPd_mk] at hc
 refine PC.enter 8 [.tmp 2] [1] Proofs.Tryz.func134 rfl rfl rfl rfl rfl (by simp) (AWp.of ?_);simp only[go_sem]
 refine Wk ?_
 refine Sd ?_
 refine(hc).val.use ?_;simp only[go_sem]
 refine Wk ?_
 refine ret_eq ?_;simp only[go_sem]
theorem predtype_eachC (f:Pd→Bool) (F:FuncId) (cs:List AV) (hg:∀x,szF x≤1000000→PV Proofs.Tryz.prog (.clo F cs) [aPd x] (ab (f x))) (t:Pd):szF t≤1000000→PC Proofs.Tryz.prog 115 [aPd t,.clo F cs] (ab (allB f t)):=by
 induction t using Pd.ind with
 | _ k n p q s l ih =>
 intro hz
 have hsz:szF (.mk k n p q s l)=szL l+1:=by rw[szF]
 have hll:=szL_len l
 have hf:=hg _ hz
 have h1:∀x ∈ l,PV Proofs.Tryz.prog (.clo 152 [.rp 1 [.clo F cs] 0 0]) [aPd x] (ab (!allB f x)):=by
  intro x hx
  have hxi:=szL_mem hx
  have hch:=ih x hx (by omega)
  generalize allB f x=b at *
  obtain⟨k2,n2,p2,q2,s2,l2⟩:=x
  refine PC.clo ?_
  simp only[aPd_mk] at *
  refine PC.enter 8 [.tmp 3] [2] Proofs.Tryz.func152 rfl rfl rfl rfl rfl (by simp) (AWp.of ?_);simp only[go_sem]
  refine Wk ?_
  refine Sd ?_
  refine(hch).val.use ?_;simp only[go_sem]
  refine Wk ?_
  refine ret_eq ?_;simp only[go_sem]
 have hc:=preds_containsFunc l (by omega) _ rfl (fun x => !allB f x) h1
 have hsp:allB f (.mk k n p q s l)=(f (.mk k n p q s l) && !l.any fun x => !allB f x):=by
  rw[allB_mk];congr 1
  rw[List.all_eq_not_any_not]
 rw[hsp]
 generalize f (.mk k n p q s l)=b at *
 generalize (l.any fun x => !allB f x)=c at *
 simp only[aPd_mk] at *
 refine PC.enter 15 [.tmp 4] [2,3] Proofs.Tryz.func115 rfl rfl rfl rfl rfl (by simp) (AWp.of ?_);simp only[go_sem]
 refine Wk ?_
 refine Sd ?_
 refine(hf).use ?_;simp only[go_sem]
 refine Sd ?_
 refine Gc hc ?_
 refine Sd ?_
 refine Wk ?_
 refine ret_eq ?_;simp only[go_sem]
theorem predtype_eachV (f:Pd→Bool) (F:FuncId) (hg:∀x,szF x≤1000000→PV Proofs.Tryz.prog (.v (.func (.func F) #[] #[])) [aPd x] (ab (f x))) (t:Pd):szF t≤1000000→PC Proofs.Tryz.prog 115 [aPd t,.v (.func (.func F) #[] #[])] (ab (allB f t)):=by
 induction t using Pd.ind with
 | _ k n p q s l ih =>
 intro hz
 have hsz:szF (.mk k n p q s l)=szL l+1:=by rw[szF]
 have hll:=szL_len l
 have hf:=hg _ hz
 have h1:∀x ∈ l,PV Proofs.Tryz.prog (.clo 152 [.rp 1 [.v (.func (.func F) #[] #[])] 0 0]) [aPd x] (ab (!allB f x)):=by
  intro x hx
  have hxi:=szL_mem hx
  have hch:=ih x hx (by omega)
  generalize allB f x=b at *
  obtain⟨k2,n2,p2,q2,s2,l2⟩:=x
  refine PC.clo ?_
  simp only[aPd_mk] at *
  refine PC.enter 8 [.tmp 3] [2] Proofs.Tryz.func152 rfl rfl rfl rfl rfl (by simp) (AWp.of ?_);simp only[go_sem]
  refine Wk ?_
  refine Sd ?_
  refine(hch).val.use ?_;simp only[go_sem]
  refine Wk ?_
  refine ret_eq ?_;simp only[go_sem]
 have hc:=preds_containsFunc l (by omega) _ rfl (fun x => !allB f x) h1
 have hsp:allB f (.mk k n p q s l)=(f (.mk k n p q s l) && !l.any fun x => !allB f x):=by
  rw[allB_mk];congr 1
  rw[List.all_eq_not_any_not]
 rw[hsp]
 generalize f (.mk k n p q s l)=b at *
 generalize (l.any fun x => !allB f x)=c at *
 simp only[aPd_mk] at *
 refine PC.enter 15 [.tmp 4] [2,3] Proofs.Tryz.func115 rfl rfl rfl rfl rfl (by simp) (AWp.of ?_);simp only[go_sem]
 refine Wk ?_
 refine Sd ?_
 refine(hf).use ?_;simp only[go_sem]
 refine Sd ?_
 refine Gc hc ?_
 refine Sd ?_
 refine Wk ?_
 refine ret_eq ?_;simp only[go_sem]
def typedB (t:Pd):Bool:=allB typB t
theorem predtype_typed (t:Pd) (hz:szF t≤1000000):PC Proofs.Tryz.prog 99 [aPd t] (ab (typedB t)):=by
 have he:=predtype_eachV typB 134 (fun x hx=>(predtype_typed1 x hx).val) t hz
 unfold typedB
 generalize allB typB t=b at *
 obtain⟨k,n,p,q,s,l⟩:=t
 simp only[aPd_mk] at *
 refine PC.enter 5 [.tmp 2] [1] Proofs.Tryz.func99 rfl rfl rfl rfl rfl (by simp) (AWp.of ?_);simp only[go_sem]
 refine Wk ?_
 refine Sd ?_
 refine(he).val.use ?_;simp only[go_sem]
 refine Wk ?_
 refine ret_eq ?_;simp only[go_sem]
theorem predtype_named (k:Int):PC Proofs.Tryz.prog 171 [ai k] (ab (decide (2≤k∧k≤4))):=by
 generalize hb:decide (2≤k∧k≤4)=b
 refine PC.enter 13 [.tmp 2] [] Proofs.Tryz.func171 rfl rfl rfl rfl rfl (by simp) (AWp.of ?_);simp only[go_sem]
 refine Wk ?_
 refine ret_eq ?_;simp only[go_sem]
 rw[← hb]
 congr 2
 rw[Bool.eq_iff_iff];simp;omega
theorem partsAV_get {k:Int} (h1:1≤k) (h2:k<22):partsAV.getD k.toNat .any=ai (partsF k):=by
 have:k=1∨k=2∨k=3∨k=4∨k=5∨k=6∨k=7∨k=8∨k=9∨k=10∨k=11∨k=12∨k=13∨k=14∨k=15∨k=16∨k=17∨k=18∨k=19∨k=20∨k=21:=by omega
 rcases this with rfl|rfl|rfl|rfl|rfl|rfl|rfl|rfl|rfl|rfl|rfl|rfl|rfl|rfl|rfl|rfl|rfl|rfl|rfl|rfl|rfl <;> rfl
theorem partsAV_len:partsAV.length=22:=rfl
theorem predtype_fits (t:Pd) (hz:szF t≤1000000):PC Proofs.Tryz.prog 132 [aPd t] (ab (locB t)):=by
 obtain⟨k,n,p,q,s,l⟩:=t
 have hll:=szL_len l
 rw[szF] at hz
 have hnm:=predtype_named k
 have hsp:locB (.mk k n p q s l)=(decide (partsF k=l.length) && numB k n && nameB k p q s):=rfl
 have hpg:=@partsAV_get k
 generalize locB (.mk k n p q s l)=b at *
 refine PC.enter 59 [.tmp 2] [1] Proofs.Tryz.func132 rfl rfl rfl rfl rfl (by simp) (AWp.of ?_);simp only[go_sem]
 by_cases k1:k<1
 ·have hk0:partsAV.getD k.toNat .any=ai (-1):=by rw[show k.toNat=0 by omega];rfl
  have hpf:partsF k = -1:=by unfold partsF;rw[if_neg (by omega),if_neg (by omega),if_neg (by omega)]
  refine AWp.seq (AWp.seq ?_)
  repeat(first|(with_reducible refine AWp.seq ?_)|(with_reducible refine AWp.block ?_))
  refine AWp.mix mixed [0,1,2,3,4,5,6,7,8,9,10,11,12,13,14,15,16,17,18,19,20,21,22,23,24,25,26,27,28,29,30,31,32,33,34,35,36,37] .done (by kernel_rfl) ?_;simp only[go_sem,GV,partsAV_len,k1,hk0]
  refine Sd ?_
  refine Wk ?_
  refine ret_eq ?_;simp only[go_sem]
  rw[hsp,hpf,decide_eq_false (by omega)];rfl
 by_cases k2:22≤k
 ·have hk0:partsAV.getD k.toNat .any = .any:=by rw[List.getD_eq_getElem?_getD,List.getElem?_eq_none (by rw[partsAV_len];omega)];rfl
  have hpf:partsF k = -1:=by unfold partsF;rw[if_neg (by omega),if_neg (by omega),if_neg (by omega)]
  refine AWp.seq (AWp.seq ?_)
  repeat(first|(with_reducible refine AWp.seq ?_)|(with_reducible refine AWp.block ?_))
  refine AWp.mix mixed [0,1,2,3,4,5,6,7,8,9,10,11,12,13,14,15,16,17,18,19,20,21,22,23,24,25,26,27,28,29,30,31,32,33,34,35,36,37] .done (by kernel_rfl) ?_;simp only[go_sem,GV,partsAV_len,k1,k2,hk0]
  refine Sd ?_
  refine Wk ?_
  refine ret_eq ?_;simp only[go_sem]
  rw[hsp,hpf,decide_eq_false (by omega)];rfl
 have hpg:=hpg (by omega) (by omega)
 refine AWp.seq (AWp.seq ?_)
 repeat(first|(with_reducible refine AWp.seq ?_)|(with_reducible refine AWp.block ?_))
 refine AWp.mix mixed [0,1,2,3,4,5,6,7,8,9,10,11,12,13,14,15,16,17,18,19,20,21,22,23,24,25,26,27,28,29,30,31,32,33,34,35,36,37] .done (by kernel_rfl) ?_;simp only[go_sem,GV,partsAV_len,k1,k2,hpg]
 refine Sd ?_
 refine Wk ?_
 refine⟨fun h1 => ?_,fun h1 => ?_⟩
 ·refine Wk ?_
  refine ret_eq ?_;simp only[go_sem]
  rw[hsp]
  by_cases e:partsF k=l.length
  ·rw[show numB k n=false by unfold numB;split <;> rw[decide_eq_false (by omega)]];rw[Bool.and_false];rfl
  ·rw[decide_eq_false e];rfl
 intro h2 h3 h4
 have hnu:numB k n=true:=by
  unfold numB
  split
  ·rw[decide_eq_true (by omega)]
  ·rename_i e
   rw[decide_eq_true];exact Classical.byContradiction fun hc=>e (h4 hc)
 rw[decide_eq_true h1.symm,hnu,Bool.true_and,Bool.true_and] at hsp
 refine Wk ?_
 refine Sd ?_
 refine(hnm).val.use ?_;simp only[go_sem]
 refine Wk ?_
 refine ret_eq ?_;simp only[go_sem]
 rw[hsp]
 unfold nameB
 congr 2
 rw[Bool.eq_iff_iff]
 simp only[Bool.or_eq_true,Bool.and_eq_true,decide_eq_true_iff]
 rw[and_assoc];rfl
mutual
def walkF:Pd→Int→Int→Bool × Int
 | .mk k n p q s l,d,c=>if c - 1<0∨20<d∨locB (.mk k n p q s l)=false then (false,c - 1) else walkL l (d+1) (c - 1)
def walkL:List Pd→Int→Int→Bool × Int
 | [],_,c=>(true,c)
 | x :: r,d,c=>if (walkF x d c).1 then walkL r d (walkF x d c).2 else (false,(walkF x d c).2)
end
def stepW (d:Int) (x:Pd) (c:Int):Bool × Int:=(!(walkF x d c).1,(walkF x d c).2)
theorem findS_walk (d:Int):∀(l:List Pd) (c:Int),(findS (stepW d) l c).1.isSome = !(walkL l d c).1∧(findS (stepW d) l c).2=(walkL l d c).2
 | [],c=>by rw[walkL,findS];exact⟨rfl,rfl⟩
 | x :: r,c=>by
  rw[walkL,findS]
  by_cases h:(walkF x d c).1=true
  ·have ih:=findS_walk d r (walkF x d c).2
   rw[if_pos h,if_neg (by simp [stepW,h])]
   exact⟨by rw[← ih.1];simp [stepW],ih.2⟩
  ·rw[if_neg h,if_pos (by simp [stepW,h])]
   exact⟨rfl,rfl⟩
theorem walkF_spec (t:Pd):∀d c:Int,0≤c→((walkF t d c).1=true↔(szF t:Int)≤c∧d+dpF t≤21∧allB locB t=true)∧((walkF t d c).1=true→(walkF t d c).2=c - szF t):=by
 induction t using Pd.ind with
 | _ k n p q s l ih =>
 intro d c hc
 have hL:∀(l':List Pd),(∀x ∈ l',x ∈ l)→∀c:Int,0≤c→((walkL l' (d+1) c).1=true↔(szL l':Int)≤c∧(∀x ∈ l',d+1+dpF x≤21)∧l'.all (allB locB)=true)∧((walkL l' (d+1) c).1=true→(walkL l' (d+1) c).2=c - szL l'):=by
  intro l'
  induction l' with
  | nil=>intro _ c hc;rw[walkL,szL];exact⟨⟨fun _=>⟨by simpa using hc,by simp,rfl⟩,fun _=>rfl⟩,fun _=>by simp⟩
  | cons x r ihr =>
   intro hm c hc
   obtain⟨i1,i2⟩:=ih x (hm x List.mem_cons_self) (d+1) c hc
   rw[walkL,szL,List.all_cons]
   by_cases h:(walkF x (d+1) c).1=true
   ·have e2:=i2 h
    obtain⟨j1,j2,j3⟩:=i1.1 h
    obtain⟨r1,r2⟩:=ihr (fun y hy=>hm y (List.mem_cons_of_mem _ hy)) (walkF x (d+1) c).2 (by omega)
    rw[if_pos h]
    refine⟨r1.trans (Iff.intro ?_ ?_),fun h2=>by rw[r2 h2,e2];omega⟩
    ·rintro⟨a1,a2,a3⟩
     refine⟨by omega,fun y hy => ?_,by rw[j3,a3];rfl⟩
     rcases List.mem_cons.1 hy with rfl|hy
     ·exact j2
     ·exact a2 y hy
    ·rintro⟨a1,a2,a3⟩
     rw[j3] at a3
     exact⟨by omega,fun y hy=>a2 y (List.mem_cons_of_mem _ hy),a3⟩
   ·rw[if_neg h]
    refine⟨Iff.intro (fun h2=>by cases h2) ?_,fun h2=>by cases h2⟩
    rintro⟨a1,a2,a3⟩
    rw[Bool.and_eq_true] at a3
    exact absurd (i1.2 ⟨by omega,a2 x List.mem_cons_self,a3.1⟩) h
 have hdl:∀l':List Pd,(∀x ∈ l',d+1+dpF x≤21)∧d≤20↔d+((dpL l'+1:Nat):Int)≤21:=by
  intro l'
  induction l' with
  | nil=>rw[dpL];constructor
         ·rintro⟨_,h⟩;omega
         ·intro h;exact⟨by simp,by omega⟩
  | cons x r ihr =>
   rw[dpL]
   constructor
   ·rintro⟨h1,h2⟩
    have:=ihr.1 ⟨fun y hy=>h1 y (List.mem_cons_of_mem _ hy),h2⟩
    have:=h1 x List.mem_cons_self
    omega
   ·intro h
    have:=ihr.2 (by omega)
    refine⟨fun y hy => ?_,this.2⟩
    rcases List.mem_cons.1 hy with rfl|hy
    ·omega
    ·exact this.1 y hy
 have hd:=hdl l
 rw[walkF,szF,dpF,allB_mk]
 by_cases h:c - 1<0∨20<d∨locB (.mk k n p q s l)=false
 ·rw[if_pos h]
  refine⟨Iff.intro (fun h=>by cases h) ?_,fun h=>by cases h⟩
  rintro⟨a1,a2,a3⟩
  have:=hd.2 a2
  rw[Bool.and_eq_true] at a3
  rcases h with h|h|h
  ·omega
  ·omega
  ·rw[h] at a3;cases a3.1
 ·rw[if_neg h]
  obtain⟨w1,w2⟩:=hL l (fun _ h=>h) (c - 1) (by omega)
  have hlo:locB (.mk k n p q s l)=true:=by
   cases e:locB (.mk k n p q s l)
   ·exact absurd (Or.inr (Or.inr e)) h
   ·rfl
  rw[hlo,Bool.true_and]
  refine⟨w1.trans (Iff.intro ?_ ?_),fun h=>by rw[w2 h];omega⟩
  ·rintro⟨a1,a2,a3⟩
   exact⟨by omega,hd.1 ⟨a2,by omega⟩,a3⟩
  ·rintro⟨a1,a2,a3⟩
   exact⟨by omega,(hd.2 a2).1,a3⟩
theorem walkF_formed (t:Pd):(walkF t 1 200).1=formedB t:=by
 rw[Bool.eq_iff_iff,(walkF_spec t 1 200 (by decide)).1]
 unfold formedB
 simp only[Bool.and_eq_true,decide_eq_true_iff,and_assoc]
 exact⟨fun ⟨a,b,c⟩=>⟨by omega,by omega,c⟩,fun ⟨a,b,c⟩=>⟨by omega,by omega,c⟩⟩
def aWalk (bl bw:Nat):AV:=.clo 131 [.lp bl 1 0 0,.lp bw 1 0 0]
def LwPd (bl bw:Nat) (c:Int):AHeap:=[(bw,.row 38 1 [aWalk bl bw] 1),(bl,.row 3 1 [ai c] 1)]
theorem stepW_inv {d:Int} {x:Pd} {c:Int} (h0:0≤c) (h:(stepW d x c).1=false):0≤(stepW d x c).2∧(stepW d x c).2≤c:=by
 have h1:(walkF x d c).1=true:=by simpa [stepW] using h
 obtain⟨w1,w2⟩:=walkF_spec x d c h0
 have:=w2 h1
 have:=w1.1 h1
 show 0≤(walkF x d c).2∧(walkF x d c).2≤c
 omega
theorem predtype_formed1 (bl bw:Nat) (hb:¬bl=bw) (t:Pd):szF t≤1000000→∀d c:Int,0≤d→d≤21→0≤c→c≤200 →
  MCalls Proofs.Tryz.prog 131 [aPd t,ai d,.lp bl 1 0 0,.lp bw 1 0 0] (LwPd bl bw c) fun r L=>r=ab (walkF t d c).1∧L=LwPd bl bw (walkF t d c).2:=by
 induction t using Pd.ind with
 | _ k n p q s l ih =>
 intro hz d c d0 d1 c0 c1
 have hsz:szF (.mk k n p q s l)=szL l+1:=by rw[szF]
 have hll:=szL_len l
 have hb':¬bw=bl:=fun e=>hb e.symm
 have hft:=predtype_fits _ hz
 have hkid:d≤20→∀x ∈ l,∀c':Int,0≤c'∧c'≤200→MVal Proofs.Tryz.prog (.clo 133 [.lp bw 1 0 0,.rp 1 [ai d] 0 0]) [aPd x] (LwPd bl bw c') fun r L=>r=ab (stepW (d+1) x c').1∧L=LwPd bl bw (stepW (d+1) x c').2:=by
  intro hd x hx c' hc'
  have hxi:=szL_mem hx
  have hch:=ih x hx (by omega) (d+1) c' (by omega) (by omega) hc'.1 hc'.2
  have e1:(stepW (d+1) x c').1 = !(walkF x (d+1) c').1:=rfl
  have e2:(stepW (d+1) x c').2=(walkF x (d+1) c').2:=rfl
  rw[e1,e2]
  generalize walkF x (d+1) c'=w at *
  obtain⟨k2,n2,p2,q2,s2,l2⟩:=x
  refine MCalls.clo ?_
  unfold LwPd aWalk at *
  simp only[aPd_mk] at *
  refine MCalls.enter' 11 [.tmp 4] [3] Proofs.Tryz.func133 rfl rfl rfl rfl rfl (by simp) (AWp.of ?_);simp only[go_sem]
  refine W1 hb' ?_
  refine Sd ?_
  refine(MCalls.clo hch).mono ?_
  rintro r L ⟨rfl,rfl⟩
  simp only[go_sem]
  refine Wk ?_
  refine ret_own ?_
  simp only[go_sem]
 have hsp:walkF (.mk k n p q s l) d c=if c - 1<0∨20<d∨locB (.mk k n p q s l)=false then (false,c - 1) else walkL l (d+1) (c - 1):=by rw[walkF]
 have hcs:d≤20→0≤c - 1→_:=fun h1 h2=>preds_containsS (stepW (d+1)) (LwPd bl bw) (fun c=>0≤c∧c≤200) l (by omega) (.clo 133 [.lp bw 1 0 0,.rp 1 [ai d] 0 0]) rfl (hkid h1) (fun x hx c' hc' h=>by have:=stepW_inv hc'.1 h;omega) (c - 1) (by omega)
 obtain⟨f1,f2⟩:=findS_walk (d+1) l (c - 1)
 rw[f1,f2] at hcs
 generalize walkL l (d+1) (c - 1)=w at *
 generalize locB (.mk k n p q s l)=b at *
 generalize walkF (.mk k n p q s l) d c=z at *
 unfold LwPd aWalk at *
 simp only[aPd_mk] at *
 refine MCalls.enter' 25 [.tmp 6] [4,5] Proofs.Tryz.func131 rfl rfl rfl rfl rfl (by simp) (AWp.of ?_);simp only[go_sem]
 refine W1 hb ?_
 refine Sd ?_
 refine Gc hft ?_
 refine Sd ?_
 refine Wk ?_
 refine⟨fun h1 => ?_,fun h1 => ?_⟩
 ·have hz':z=(false,c - 1):=by
   rw[hsp,if_pos]
   rcases h1 with (h1|h1)|h1
   ·exact .inl h1
   ·exact .inr (.inl h1)
   ·exact .inr (.inr (by simpa using h1))
  refine Wk ?_
  refine ret_own ?_
  simp only[go_sem]
  rw[hz'];exact⟨rfl,rfl⟩
 intro h2 h3
 have hz':z=w:=by rw[hsp,if_neg];rintro(h|h|h);exact h1 h;exact h2 h;rw[h3] at h;cases h
 have hcs:=hcs (by omega) (by omega)
 refine W1 hb' ?_
 refine Sd ?_
 refine hcs.val.mono ?_
 rintro r L ⟨rfl,rfl⟩
 simp only[go_sem]
 refine Wk ?_
 refine ret_own ?_
 simp only[go_sem]
 rw[hz'];exact⟨rfl,rfl⟩
theorem predtype_formed (t:Pd) (hz:szF t≤1000000):PC Proofs.Tryz.prog 98 [aPd t] (ab (formedB t)):=by
 rw[← walkF_formed]
 have hw:=fun bl bw hb=>predtype_formed1 bl bw hb t hz 1 200 (by decide) (by decide) (by decide) (by decide)
 unfold LwPd aWalk at hw
 generalize walkF t 1 200=w at *
 obtain⟨k,n,p,q,s,l⟩:=t
 simp only[aPd_mk] at *
 refine PC.enter 9 [.tmp 2] [1] Proofs.Tryz.func98 rfl rfl rfl rfl rfl (by simp) (AWp.of ?_);simp only[go_sem]
 refine Wk ?_
 intro bl
 refine Wk ?_
 intro bw hlt
 have hb:¬bw=bl:=by omega
 have hb':¬bl=bw:=by omega
 refine W1 hb ?_
 refine Sd ?_
 refine(MCalls.clo (hw bl bw hb')).mono ?_
 rintro r L ⟨rfl,rfl⟩
 simp only[go_sem]
 refine Wk ?_
 refine ret_eq ?_;simp only[go_sem]
theorem predtype_TypeX (t:Pd) (hz:szF t≤1000000):PC Proofs.Tryz.prog 65 [aPd t] (.tup [ai (if formedB t=false then 0 else if typedB t=false then 0 else resF t.kind),ai (if formedB t=false then 1 else if typedB t=false then 14 else 0)]):=by
 have hf:=predtype_formed t hz
 have ht:=predtype_typed t hz
 have hr:=predtype_result t.kind
 generalize formedB t=f at *
 generalize typedB t=y at *
 obtain⟨k,n,p,q,s,l⟩:=t
 simp only[aPd_mk,Pd.kind] at *
 generalize resF k=r at *
 refine PC.enter 15 [.tmp 2,.tmp 3] [1] Proofs.Tryz.func65 rfl rfl rfl rfl rfl (by simp) (AWp.of ?_);simp only[go_sem]
 refine Wk ?_
 refine Sd ?_
 refine(hf).val.use ?_;simp only[go_sem]
 refine Wk ?_
 refine⟨fun h1 => ?_,fun h1 => ?_⟩
 ·refine Wk ?_
  refine ret_eq ?_;simp only[go_sem]
  simp [h1]
 refine Wk ?_
 refine Sd ?_
 refine(ht).val.use ?_;simp only[go_sem]
 refine Wk ?_
 refine⟨fun h2 => ?_,fun h2 => ?_⟩
 ·refine Wk ?_
  refine ret_eq ?_;simp only[go_sem]
  simp [h1,h2]
 refine Wk ?_
 refine Sd ?_
 refine(hr).val.use ?_;simp only[go_sem]
 refine Wk ?_
 refine ret_eq ?_;simp only[go_sem]
 simp [h1,h2]
mutual
def rwF (c:List Int):Pd→Pd
 | .mk k n p q s l=>if k=3 then .mk 6 0 0 0 ByteArray.empty [.mk k n p q s l,.mk 1 (c.getD p.toNat 0) 0 0 ByteArray.empty []] else .mk k n p q s (rwL c l)
def rwL (c:List Int):List Pd→List Pd
 | []=>[]
 | x :: r=>rwF c x :: rwL c r
end
def aPd0:AV:=.agg [ai 0,ai 0,ai 0,ai 0,astr ByteArray.empty,anil]
theorem ints_cloneO (l:List Int) (hl:l.length≤1000000):MCalls Proofs.Tryz.prog 190 [aInts l] [] fun r L=>AppSt 3 1 (l.map ai) r L:=by
 refine MCalls.enter' 8 [.tmp 2] [] Proofs.Tryz.func190 rfl rfl rfl rfl rfl (by simp) (AWp.of ?_);simp only[go_sem]
 refine Wk ?_
 intro b hb
 refine Wk ?_
 refine⟨fun ht => ?_,fun hf => ?_⟩
 ·have:l=[]:=by
   by_cases h:l=[]
   ·exact h
   ·rw[hb (by simpa using h)] at ht;cases ht
  subst this
  refine Wk ?_
  refine ret_own ?_
  simp only[go_sem]
  exact .nil
 ·refine Wk ?_
  intros
  refine Sd ?_
  intros
  refine Wk ?_
  refine ret_own ?_
  simp only[go_sem]
  have e:l.length=(l.map ai).length:=by simp
  rw[e];exact .row _ _ _
theorem procs_indexFunc (l:List Pr) (hl:l.length≤1000000) (g:AV) (hgf:fo g=(True,g)) (p:Pr→Bool) (hg:∀x ∈ l,PV Proofs.Tryz.prog g [aPr x] (ab (p x))) :
  PC Proofs.Tryz.prog 223 [aPrs l,g] (ai (match l.findIdx? p with|some i=>(i:Int)|none => -1)):=by
 refine PC.enter 19 [.tmp 4] [] Proofs.Tryz.func223 rfl rfl rfl rfl rfl (by simp) (AWp.of ?_);simp only[go_sem]
 refine Sd ?_
 refine AWp.of ?_;simp only[go_sem,aPrs]
 refine AWp.range' l.length [] [0,1,7] (fun k vs L=>L=[]∧∀i (h:i<l.length),i<k→p l[i]=false) (by omega) rfl rfl rfl ⟨rfl,by omega⟩ ?_ ?_
 ·rintro k vs L' hk hvs ⟨rfl,hI⟩
  simp only[go_sem]
  refine Sd ?_
  refine AWp.of ?_;simp only[go_sem]
  have hgk:=hg l[k] (List.getElem_mem hk)
  try simp only[go_sem,aPr] at hgk
  refine Sd ?_
  refine AWp.of ?_;simp only[go_sem,getD_map hk,hgf,aPr]
  refine⟨⟨by omega,by omega⟩,hk,hgk.use (AWp.of ?_)⟩;simp only[go_sem]
  refine⟨fun ht => ?_,fun hf => ?_⟩
  ·refine Sd ?_
   refine AWp.of ?_;simp only[go_sem]
   refine ret_eq ?_;simp only[go_sem]
   have:l.findIdx? p=some k:=by rw[List.findIdx?_eq_some_iff_getElem];exact⟨hk,ht,fun j hj=>by simpa using hI j (by omega) hj⟩
   rw[this]
  ·refine⟨[],List.Sublist.refl _,rfl,fun i h hi => ?_⟩
   by_cases e:i=k
   ·subst e;exact hf
   ·exact hI i h (by omega)
 ·rintro vs L' hvs ⟨rfl,hI⟩
  simp only[go_sem]
  refine Sd ?_
  refine AWp.of ?_;simp only[go_sem]
  refine Sd ?_
  refine AWp.of ?_;simp only[go_sem]
  refine ret_eq ?_;simp only[go_sem]
  have:l.findIdx? p=none:=by rw[List.findIdx?_eq_none_iff];intro x hx;obtain⟨i,hi,rfl⟩:=List.getElem_of_mem hx;exact hI i hi hi
  rw[this]
theorem procs_containsFunc (l:List Pr) (hl:l.length≤1000000) (g:AV) (hgf:fo g=(True,g)) (p:Pr→Bool) (hg:∀x ∈ l,PV Proofs.Tryz.prog g [aPr x] (ab (p x))) :
  PC Proofs.Tryz.prog 202 [aPrs l,g] (ab (l.any p)):=by
 refine PC.enter 9 [.tmp 4] [] Proofs.Tryz.func202 rfl rfl rfl rfl rfl (by simp) (AWp.of ?_);simp only[go_sem]
 refine Sd ?_
 refine AWp.of ?_;simp only[go_sem,hgf,aPrs]
 refine(procs_indexFunc l hl g hgf p hg).val.use ?_
 simp only[go_sem]
 refine Sd ?_
 refine AWp.of ?_;simp only[go_sem]
 refine ret_eq ?_;simp only[go_sem]
 congr 2;exact findIdx_any l p
theorem events_indexFunc (l:List Ev) (hl:l.length≤1000000) (g:AV) (hgf:fo g=(True,g)) (p:Ev→Bool) (hg:∀x ∈ l,PV Proofs.Tryz.prog g [aEv x] (ab (p x))) :
  PC Proofs.Tryz.prog 70 [aEvs l,g] (ai (match l.findIdx? p with|some i=>(i:Int)|none => -1)):=by
 refine PC.enter 19 [.tmp 4] [] Proofs.Tryz.func70 rfl rfl rfl rfl rfl (by simp) (AWp.of ?_);simp only[go_sem]
 refine Sd ?_
 refine AWp.of ?_;simp only[go_sem,aEvs]
 refine AWp.range' l.length [] [0,1,7] (fun k vs L=>L=[]∧∀i (h:i<l.length),i<k→p l[i]=false) (by omega) rfl rfl rfl ⟨rfl,by omega⟩ ?_ ?_
 ·rintro k vs L' hk hvs ⟨rfl,hI⟩
  simp only[go_sem]
  refine Sd ?_
  refine AWp.of ?_;simp only[go_sem]
  have hgk:=hg l[k] (List.getElem_mem hk)
  try simp only[go_sem,aEv] at hgk
  refine Sd ?_
  refine AWp.of ?_;simp only[go_sem,getD_map hk,hgf,aEv]
  refine⟨⟨by omega,by omega⟩,hk,hgk.use (AWp.of ?_)⟩;simp only[go_sem]
  refine⟨fun ht => ?_,fun hf => ?_⟩
  ·refine Sd ?_
   refine AWp.of ?_;simp only[go_sem]
   refine ret_eq ?_;simp only[go_sem]
   have:l.findIdx? p=some k:=by rw[List.findIdx?_eq_some_iff_getElem];exact⟨hk,ht,fun j hj=>by simpa using hI j (by omega) hj⟩
   rw[this]
  ·refine⟨[],List.Sublist.refl _,rfl,fun i h hi => ?_⟩
   by_cases e:i=k
   ·subst e;exact hf
   ·exact hI i h (by omega)
 ·rintro vs L' hvs ⟨rfl,hI⟩
  simp only[go_sem]
  refine Sd ?_
  refine AWp.of ?_;simp only[go_sem]
  refine Sd ?_
  refine AWp.of ?_;simp only[go_sem]
  refine ret_eq ?_;simp only[go_sem]
  have:l.findIdx? p=none:=by rw[List.findIdx?_eq_none_iff];intro x hx;obtain⟨i,hi,rfl⟩:=List.getElem_of_mem hx;exact hI i hi hi
  rw[this]
theorem events_containsFunc (l:List Ev) (hl:l.length≤1000000) (g:AV) (hgf:fo g=(True,g)) (p:Ev→Bool) (hg:∀x ∈ l,PV Proofs.Tryz.prog g [aEv x] (ab (p x))) :
  PC Proofs.Tryz.prog 36 [aEvs l,g] (ab (l.any p)):=by
 refine PC.enter 9 [.tmp 4] [] Proofs.Tryz.func36 rfl rfl rfl rfl rfl (by simp) (AWp.of ?_);simp only[go_sem]
 refine Sd ?_
 refine AWp.of ?_;simp only[go_sem,hgf,aEvs]
 refine(events_indexFunc l hl g hgf p hg).val.use ?_
 simp only[go_sem]
 refine Sd ?_
 refine AWp.of ?_;simp only[go_sem]
 refine ret_eq ?_;simp only[go_sem]
 congr 2;exact findIdx_any l p
theorem vars_indexFunc (l:List (ByteArray × Int)) (hl:l.length≤1000000) (g:AV) (hgf:fo g=(True,g)) (p:(ByteArray × Int)→Bool) (hg:∀x ∈ l,PV Proofs.Tryz.prog g [aVar x] (ab (p x))) :
  PC Proofs.Tryz.prog 71 [aVars l,g] (ai (match l.findIdx? p with|some i=>(i:Int)|none => -1)):=by
 refine PC.enter 19 [.tmp 4] [] Proofs.Tryz.func71 rfl rfl rfl rfl rfl (by simp) (AWp.of ?_);simp only[go_sem]
 refine Sd ?_
 refine AWp.of ?_;simp only[go_sem,aVars]
 refine AWp.range' l.length [] [0,1,7] (fun k vs L=>L=[]∧∀i (h:i<l.length),i<k→p l[i]=false) (by omega) rfl rfl rfl ⟨rfl,by omega⟩ ?_ ?_
 ·rintro k vs L' hk hvs ⟨rfl,hI⟩
  simp only[go_sem]
  refine Sd ?_
  refine AWp.of ?_;simp only[go_sem]
  have hgk:=hg l[k] (List.getElem_mem hk)
  try simp only[go_sem,aVar] at hgk
  refine Sd ?_
  refine AWp.of ?_;simp only[go_sem,getD_map hk,hgf,aVar]
  refine⟨⟨by omega,by omega⟩,hk,hgk.use (AWp.of ?_)⟩;simp only[go_sem]
  refine⟨fun ht => ?_,fun hf => ?_⟩
  ·refine Sd ?_
   refine AWp.of ?_;simp only[go_sem]
   refine ret_eq ?_;simp only[go_sem]
   have:l.findIdx? p=some k:=by rw[List.findIdx?_eq_some_iff_getElem];exact⟨hk,ht,fun j hj=>by simpa using hI j (by omega) hj⟩
   rw[this]
  ·refine⟨[],List.Sublist.refl _,rfl,fun i h hi => ?_⟩
   by_cases e:i=k
   ·subst e;exact hf
   ·exact hI i h (by omega)
 ·rintro vs L' hvs ⟨rfl,hI⟩
  simp only[go_sem]
  refine Sd ?_
  refine AWp.of ?_;simp only[go_sem]
  refine Sd ?_
  refine AWp.of ?_;simp only[go_sem]
  refine ret_eq ?_;simp only[go_sem]
  have:l.findIdx? p=none:=by rw[List.findIdx?_eq_none_iff];intro x hx;obtain⟨i,hi,rfl⟩:=List.getElem_of_mem hx;exact hI i hi hi
  rw[this]
theorem vars_containsFunc (l:List (ByteArray × Int)) (hl:l.length≤1000000) (g:AV) (hgf:fo g=(True,g)) (p:(ByteArray × Int)→Bool) (hg:∀x ∈ l,PV Proofs.Tryz.prog g [aVar x] (ab (p x))) :
  PC Proofs.Tryz.prog 38 [aVars l,g] (ab (l.any p)):=by
 refine PC.enter 9 [.tmp 4] [] Proofs.Tryz.func38 rfl rfl rfl rfl rfl (by simp) (AWp.of ?_);simp only[go_sem]
 refine Sd ?_
 refine AWp.of ?_;simp only[go_sem,hgf,aVars]
 refine(vars_indexFunc l hl g hgf p hg).val.use ?_
 simp only[go_sem]
 refine Sd ?_
 refine AWp.of ?_;simp only[go_sem]
 refine ret_eq ?_;simp only[go_sem]
 congr 2;exact findIdx_any l p
theorem asgs_indexFunc (l:List (Int × Int)) (hl:l.length≤1000000) (g:AV) (hgf:fo g=(True,g)) (p:(Int × Int)→Bool) (hg:∀x ∈ l,PV Proofs.Tryz.prog g [aAsg x] (ab (p x))) :
  PC Proofs.Tryz.prog 224 [aAsgs l,g] (ai (match l.findIdx? p with|some i=>(i:Int)|none => -1)):=by
 refine PC.enter 19 [.tmp 4] [] Proofs.Tryz.func224 rfl rfl rfl rfl rfl (by simp) (AWp.of ?_);simp only[go_sem]
 refine Sd ?_
 refine AWp.of ?_;simp only[go_sem,aAsgs]
 refine AWp.range' l.length [] [0,1,7] (fun k vs L=>L=[]∧∀i (h:i<l.length),i<k→p l[i]=false) (by omega) rfl rfl rfl ⟨rfl,by omega⟩ ?_ ?_
 ·rintro k vs L' hk hvs ⟨rfl,hI⟩
  simp only[go_sem]
  refine Sd ?_
  refine AWp.of ?_;simp only[go_sem]
  have hgk:=hg l[k] (List.getElem_mem hk)
  try simp only[go_sem,aAsg] at hgk
  refine Sd ?_
  refine AWp.of ?_;simp only[go_sem,getD_map hk,hgf,aAsg]
  refine⟨⟨by omega,by omega⟩,hk,hgk.use (AWp.of ?_)⟩;simp only[go_sem]
  refine⟨fun ht => ?_,fun hf => ?_⟩
  ·refine Sd ?_
   refine AWp.of ?_;simp only[go_sem]
   refine ret_eq ?_;simp only[go_sem]
   have:l.findIdx? p=some k:=by rw[List.findIdx?_eq_some_iff_getElem];exact⟨hk,ht,fun j hj=>by simpa using hI j (by omega) hj⟩
   rw[this]
  ·refine⟨[],List.Sublist.refl _,rfl,fun i h hi => ?_⟩
   by_cases e:i=k
   ·subst e;exact hf
   ·exact hI i h (by omega)
 ·rintro vs L' hvs ⟨rfl,hI⟩
  simp only[go_sem]
  refine Sd ?_
  refine AWp.of ?_;simp only[go_sem]
  refine Sd ?_
  refine AWp.of ?_;simp only[go_sem]
  refine ret_eq ?_;simp only[go_sem]
  have:l.findIdx? p=none:=by rw[List.findIdx?_eq_none_iff];intro x hx;obtain⟨i,hi,rfl⟩:=List.getElem_of_mem hx;exact hI i hi hi
  rw[this]
theorem asgs_containsFunc (l:List (Int × Int)) (hl:l.length≤1000000) (g:AV) (hgf:fo g=(True,g)) (p:(Int × Int)→Bool) (hg:∀x ∈ l,PV Proofs.Tryz.prog g [aAsg x] (ab (p x))) :
  PC Proofs.Tryz.prog 207 [aAsgs l,g] (ab (l.any p)):=by
 refine PC.enter 9 [.tmp 4] [] Proofs.Tryz.func207 rfl rfl rfl rfl rfl (by simp) (AWp.of ?_);simp only[go_sem]
 refine Sd ?_
 refine AWp.of ?_;simp only[go_sem,hgf,aAsgs]
 refine(asgs_indexFunc l hl g hgf p hg).val.use ?_
 simp only[go_sem]
 refine Sd ?_
 refine AWp.of ?_;simp only[go_sem]
 refine ret_eq ?_;simp only[go_sem]
 congr 2;exact findIdx_any l p
def nmB (s:ByteArray) (v:ByteArray × Int):Bool:=decide (v.1=s)
def varIx (vs:List (ByteArray × Int)) (s:ByteArray):Int:=match vs.findIdx? (nmB s) with|some i=>i|none => -1
def isPB (n:Nat) (p:Int):Bool:=decide (0≤p) && decide (p<n)
def knownB (ps:List Pr) (p:Int) (s:ByteArray):Bool:=match ps[p.toNat]? with|some x=>x.vars.any (nmB s)|none=>false
def resB (ps:List Pr):Pd→Bool
 | .mk k _ p q s _=>if k=2 then isPB ps.length p && decide (q=0) && knownB ps p s else if k=3 then isPB ps.length p && decide (q=0) && decide (s=ByteArray.empty) else
  if k=4 then isPB ps.length p && isPB ps.length q && !decide (p=q) && decide (s=ByteArray.empty) else true
theorem predtype_isProc (ps:List Pr) (p:Int):PC Proofs.Tryz.prog 146 [aTr ps,ai p] (ab (isPB ps.length p)):=by
 generalize hb:isPB ps.length p=b
 refine PC.enter 14 [.tmp 4] [2] Proofs.Tryz.func146 rfl rfl rfl rfl rfl (by simp) (AWp.of ?_);simp only[go_sem]
 refine Wk ?_
 refine ret_eq ?_;simp only[go_sem]
 rw[← hb];rfl
theorem predtype_known1 (v:ByteArray × Int) (s:ByteArray):PC Proofs.Tryz.prog 180 [aVar v,.rp 1 [astr s] 0 0] (ab (nmB s v)):=by
 generalize hb:nmB s v=b
 refine PC.enter 8 [.tmp 3] [2] Proofs.Tryz.func180 rfl rfl rfl rfl rfl (by simp) (AWp.of ?_);simp only[go_sem]
 refine Wk ?_
 refine ret_eq ?_;simp only[go_sem]
 rw[← hb];rfl
theorem isPB_nat {n:Nat} {p:Int} (h:isPB n p=true):∃i:Nat,p=i∧i<n:=by
 unfold isPB at h;simp only[Bool.and_eq_true,decide_eq_true_eq] at h
 exact⟨p.toNat,by omega,by omega⟩
theorem predtype_known (ps:List Pr) (hs:Sm ps) (p:Int) (hpb:isPB ps.length p=true) (s:ByteArray):PC Proofs.Tryz.prog 147 [aTr ps,ai p,astr s] (ab (knownB ps p s)):=by
 obtain⟨p,rfl,hp⟩:=isPB_nat hpb
 have hm:=List.getElem_mem hp
 have hc:=vars_containsFunc ps[p].vars (hs.vars _ hm) (.clo 180 [.rp 1 [astr s] 0 0]) rfl (nmB s) fun v _=>(predtype_known1 v s).clo
 have hk:knownB ps p s=ps[p].vars.any (nmB s):=by unfold knownB;simp only[Int.toNat_natCast,List.getElem?_eq_getElem hp]
 have hgp:=getD_map (f:=aPr) hp
 rw[hk]
 generalize ps[p].vars.any (nmB s)=b at *
 refine PC.enter 15 [.tmp 6] [3,5] Proofs.Tryz.func147 rfl rfl rfl rfl rfl (by simp) (AWp.of ?_);simp only[go_sem]
 refine W1 hgp ?_
 refine Sd ?_
 refine(hc).val.use ?_;simp only[go_sem]
 refine Wk ?_
 refine ret_eq ?_;simp only[go_sem]
theorem predtype_resolved1 (ps:List Pr) (hs:Sm ps) (x:Pd):PC Proofs.Tryz.prog 145 [aPd x,.rp 1 [aTr ps] 0 0] (ab (resB ps x)):=by
 obtain⟨k,n,p,q,s,l⟩:=x
 have hsp:resB ps (.mk k n p q s l)=if k=2 then isPB ps.length p && decide (q=0) && knownB ps p s else if k=3 then isPB ps.length p && decide (q=0) && decide (s=ByteArray.empty) else
  if k=4 then isPB ps.length p && isPB ps.length q && !decide (p=q) && decide (s=ByteArray.empty) else true:=rfl
 generalize resB ps (.mk k n p q s l)=B at *
 have h1:=predtype_isProc ps p
 have h2:=predtype_isProc ps q
 have hkn:=fun h=>predtype_known ps hs p h s
 generalize isPB ps.length p=P at *
 generalize isPB ps.length q=Q at *
 generalize knownB ps p s=K at *
 refine PC.enter 65 [.tmp 3] [2] Proofs.Tryz.func145 rfl rfl rfl rfl rfl (by simp) (AWp.of ?_);simp only[go_sem]
 refine Wk ?_
 refine⟨fun h3 => ?_,fun h3 => ?_⟩
 ·rw[if_pos h3] at hsp
  refine Wk ?_
  refine Sd ?_
  refine(h1).val.use ?_;simp only[go_sem]
  refine GCall.use (ab K) (fun g=>⟨At,(hkn g.1).val.use ⟨rfl,rfl⟩⟩) ?_;simp only[go_sem]
  refine Sd ?_
  refine Wk ?_
  refine ret_eq ?_;simp only[go_sem]
  rw[hsp]
 rw[if_neg h3] at hsp
 refine Wk ?_
 refine⟨fun h4 => ?_,fun h4 => ?_⟩
 ·rw[if_pos h4] at hsp
  refine Wk ?_
  refine Sd ?_
  refine(h1).val.use ?_;simp only[go_sem]
  refine Wk ?_
  refine ret_eq ?_;simp only[go_sem]
  rw[hsp];rfl
 rw[if_neg h4] at hsp
 refine Wk ?_
 refine⟨fun h5 => ?_,fun h5 => ?_⟩
 ·rw[if_pos h5] at hsp
  refine Wk ?_
  refine Sd ?_
  refine(h1).val.use ?_;simp only[go_sem]
  refine Sd ?_
  refine Gc h2 ?_
  refine Sd ?_
  refine Wk ?_
  refine ret_eq ?_;simp only[go_sem]
  rw[hsp];rfl
 rw[if_neg h5] at hsp
 refine Wk ?_
 refine ret_eq ?_;simp only[go_sem]
 rw[hsp]
theorem predtype_resolved (ps:List Pr) (hs:Sm ps) (t:Pd) (hz:szF t≤1000000):PC Proofs.Tryz.prog 111 [aTr ps,aPd t] (ab (allB (resB ps) t)):=by
 have he:=predtype_eachC (resB ps) 145 [.rp 1 [aTr ps] 0 0] (fun x hx=>(predtype_resolved1 ps hs x).clo) t hz
 generalize allB (resB ps) t=b at *
 obtain⟨k,n,p,q,s,l⟩:=t
 simp only[aPd_mk] at *
 refine PC.enter 8 [.tmp 4] [2,3] Proofs.Tryz.func111 rfl rfl rfl rfl rfl (by simp) (AWp.of ?_);simp only[go_sem]
 refine Wk ?_
 refine Sd ?_
 refine(he).val.use ?_;simp only[go_sem]
 refine Wk ?_
 refine ret_eq ?_;simp only[go_sem]
theorem varIx_neg (vs:List (ByteArray × Int)) (s:ByteArray):varIx vs s<0↔vs.any (nmB s)=false:=by
 unfold varIx
 cases h:vs.findIdx? (nmB s) with
 | none=>simp only[List.findIdx?_eq_none_iff] at h;simp only[List.any_eq_false];exact⟨fun _ x hx=>by simp [h x hx],fun _=>by omega⟩
 | some i =>
  rw[List.findIdx?_eq_some_iff_getElem] at h
  obtain⟨hi,h1,_⟩:=h
  refine⟨fun h=>by (have:(0:Int)≤(i:Int):=by omega);exact absurd h (by simp),fun h => ?_⟩
  rw[List.any_eq_false] at h
  exact absurd h1 (by simpa using h _ (List.getElem_mem hi))
abbrev au8 (n:Int):AV:=.v (.int .u8 n)
def letterI (n:Int):Bool:=(decide (97≤n) && decide (n≤122)) || (decide (65≤n) && decide (n≤90))
def digitI (n:Int):Bool:=decide (48≤n) && decide (n≤57)
def inI (x a b:Int):Bool:=decide (a≤x) && decide (x≤b)
def sb (s:ByteArray) (i:Nat):Int:=((s.get! i).toNat:Int)
def nameOk (s:ByteArray):Bool:=decide (s.size ≠ 0) && decide (s.size≤16) && letterI (sb s 0) && (List.range s.size).all fun i=>letterI (sb s i) || digitI (sb s i) || decide (sb s i=95)
theorem size_empty (s:ByteArray):(s=⟨#[]⟩)=(s.size=0):=by
 apply propext
 constructor
 ·rintro rfl;rfl
 ·intro h
  obtain⟨⟨l⟩⟩:=s
  have:l.length=0:=h
  rw[List.eq_nil_of_length_eq_zero this]
theorem trace_letter (n:Int):PC Proofs.Tryz.prog 221 [au8 n] (ab (letterI n)):=by
 refine PC.enter 17 [.tmp 2] [] Proofs.Tryz.func221 rfl rfl rfl rfl rfl (by simp) (AWp.of ?_);simp only[go_sem]
 refine Sd ?_
 refine AWp.of ?_;simp only[go_sem]
 refine Sd ?_
 refine AWp.of ?_;simp only[go_sem]
 refine ret_eq ?_;simp only[go_sem]
 rfl
theorem trace_digit (n:Int):PC Proofs.Tryz.prog 222 [au8 n] (ab (digitI n)):=by
 refine PC.enter 9 [.tmp 2] [] Proofs.Tryz.func222 rfl rfl rfl rfl rfl (by simp) (AWp.of ?_);simp only[go_sem]
 refine Sd ?_
 refine AWp.of ?_;simp only[go_sem]
 refine Sd ?_
 refine AWp.of ?_;simp only[go_sem]
 refine ret_eq ?_;simp only[go_sem]
 rfl
theorem trace_in (x a b:Int):PC Proofs.Tryz.prog 174 [ai x,ai a,ai b] (ab (inI x a b)):=by
 refine PC.enter 15 [.tmp 6] [] Proofs.Tryz.func174 rfl rfl rfl rfl rfl (by simp) (AWp.of ?_);simp only[go_sem]
 refine Sd ?_
 refine AWp.of ?_;simp only[go_sem]
 refine Sd ?_
 refine AWp.of ?_;simp only[go_sem]
 refine ret_eq ?_;simp only[go_sem]
 rfl
theorem trace_isName (s:ByteArray):PC Proofs.Tryz.prog 201 [astr s] (ab (nameOk s)):=by
 refine PC.enter 41 [.tmp 2] [] Proofs.Tryz.func201 rfl rfl rfl rfl rfl (by simp) (AWp.of ?_);simp only[go_sem]
 refine Sd ?_
 refine AWp.of ?_;simp only[go_sem,size_empty]
 refine Sd ?_
 refine GCall.use (ab (letterI (sb s 0))) (fun _=>⟨At,(trace_letter _).val.use ⟨rfl,rfl⟩⟩) ?_;simp only[go_sem]
 refine Sd ?_
 refine AWp.of ?_;simp only[go_sem]
 refine⟨fun ht => ?_,fun h1 h2 h3 => ?_⟩
 ·refine Sd ?_
  refine AWp.of ?_;simp only[go_sem]
  refine ret_eq ?_;simp only[go_sem]
  congr 2;symm;unfold nameOk
  rcases ht with (h|h)|h
  ·simp [h]
  ·simp [show ¬s.size≤16 by omega]
  ·simp [h]
 ·refine Sd ?_
  refine AWp.of ?_;simp only[go_sem]
  refine AWp.range' s.size [] [0,18] (fun k vs L=>L=[]∧∀i,i<k→(letterI (sb s i) || digitI (sb s i) || decide (sb s i=95))=true) (by omega) rfl rfl rfl ⟨rfl,by omega⟩ ?_ ?_
  ·rintro k vs L' hk hvs ⟨rfl,hI⟩
   simp only[go_sem]
   refine Sd ?_
   refine AWp.of ?_;simp only[go_sem]
   refine Sd ?_
   refine AWp.of ?_;simp only[go_sem]
   refine⟨⟨by omega,by omega⟩,(trace_letter _).val.use ?_⟩
   simp only[go_sem]
   refine Sd ?_
   refine GCall.use (ab (digitI (sb s k))) (fun _=>⟨At,(trace_digit _).val.use ⟨rfl,rfl⟩⟩) ?_;simp only[go_sem]
   refine Sd ?_
   refine AWp.of ?_;simp only[go_sem]
   refine⟨fun h4 h5 h6 => ?_,fun h4 => ?_⟩
   ·refine Sd ?_
    refine AWp.of ?_;simp only[go_sem]
    refine ret_eq ?_;simp only[go_sem]
    congr 2;symm;unfold nameOk
    have:((List.range s.size).all fun i=>letterI (sb s i) || digitI (sb s i) || decide (sb s i=95))=false:=by
     rw[List.all_eq_false]
     exact⟨k,List.mem_range.2 hk,by simp [show letterI (sb s k)=false from h4,h5];exact h6⟩
    rw[this];simp
   ·refine⟨[],List.Sublist.refl _,rfl,fun i hi => ?_⟩
    by_cases e:i=k
    ·subst e
     cases h5:letterI (sb s i)
     ·cases h6:digitI (sb s i)
      ·exact .inr (h4 h5 h6)
      ·exact .inl (.inr rfl)
     ·exact .inl (.inl rfl)
    ·simpa using hI i (by omega)
  ·rintro vs L' hvs ⟨rfl,hI⟩
   simp only[go_sem]
   refine Sd ?_
   refine AWp.of ?_;simp only[go_sem]
   refine Sd ?_
   refine AWp.of ?_;simp only[go_sem]
   refine ret_eq ?_;simp only[go_sem]
   congr 2;symm;unfold nameOk
   have:((List.range s.size).all fun i=>letterI (sb s i) || digitI (sb s i) || decide (sb s i=95))=true:=by
    rw[List.all_eq_true]
    exact fun i hi=>by simpa using hI i (List.mem_range.1 hi)
   rw[this];simp [h1,h3];omega
def varF (vs:List (ByteArray × Int)) (i:Nat):Int :=
 match vs[i]? with
 | some v=>if !nameOk v.1 || (vs.take i).any (fun w=>decide (w.1=v.1)) then 13 else if !inI v.2 (-1073741824) 1073741824 then 2 else 0
 | none=>0
def procF (ps:List Pr) (p:Nat):Int :=
 match ps[p]? with
 | some x=>if !nameOk x.name || (ps.take p).any (fun y=>decide (y.name=x.name)) then 13 else if 8<x.vars.length then 5 else
   if fstF (varF x.vars) x.vars.length ≠ 0 then fstF (varF x.vars) x.vars.length else if 64<x.evs.length then 5 else 0
 | none=>0
theorem trace_processFault1 (y x:Pr):PC Proofs.Tryz.prog 203 [aPr y,.rp 3 [aPr x] 0 0] (ab (decide (y.name=x.name))):=by
 refine PC.enter 9 [.tmp 3] [2] Proofs.Tryz.func203 rfl rfl rfl rfl rfl (by simp) (AWp.of ?_);simp only[go_sem]
 refine Sd ?_
 refine AWp.of ?_;simp only[go_sem]
 refine Sd ?_
 refine AWp.of ?_;simp only[go_sem]
 refine ret_eq ?_;simp only[go_sem]
theorem trace_processFault2 (y x:ByteArray × Int):PC Proofs.Tryz.prog 204 [aVar y,.rp 2 [aVar x] 0 0] (ab (decide (y.1=x.1))):=by
 refine PC.enter 9 [.tmp 3] [2] Proofs.Tryz.func204 rfl rfl rfl rfl rfl (by simp) (AWp.of ?_);simp only[go_sem]
 refine Sd ?_
 refine AWp.of ?_;simp only[go_sem]
 refine Sd ?_
 refine AWp.of ?_;simp only[go_sem]
 refine ret_eq ?_;simp only[go_sem]
theorem trace_processFaultH (ps:List Pr) (hs:Smh ps) (p:Nat) (hp:p<ps.length):PC Proofs.Tryz.prog 175 [aTr ps,ai p] (ai (procF ps p)):=by
 have hm:=List.getElem_mem hp
 refine PC.enter 62 [.tmp 4] [2,5,7] Proofs.Tryz.func175 rfl rfl rfl rfl rfl (by simp) (AWp.of ?_);simp only[go_sem]
 refine Sd ?_
 refine AWp.of ?_;simp only[go_sem,getD_map hp]
 refine Sd ?_
 intros
 refine AWp.of ?_;simp only[go_sem]
 refine(trace_isName _).val.use ?_
 simp only[go_sem]
 refine Sd ?_
 refine GCall.use (ab ((ps.take p).any fun y=>decide (y.name=ps[p].name))) (fun _=>⟨At,(procs_containsFunc (ps.take p) (take_le hs.procs) (.clo 203 [.rp 3 [aPr ps[p]] 0 0]) rfl (fun y=>decide (y.name=ps[p].name)) fun y _=>(trace_processFault1 y ps[p]).clo).val.use ⟨rfl,rfl⟩⟩) ?_;simp only[go_sem]
 refine Sd ?_
 refine AWp.of ?_;simp only[go_sem]
 refine⟨fun ht => ?_,fun h1 h2 => ?_⟩
 ·refine Sd ?_
  refine AWp.of ?_;simp only[go_sem]
  refine ret_eq ?_;simp only[go_sem]
  simp only[procF,List.getElem?_eq_getElem hp];rw[if_pos (by simpa using ht)]
 ·refine Sd ?_
  refine AWp.of ?_;simp only[go_sem]
  refine⟨fun ht => ?_,fun h3 => ?_⟩
  ·refine Sd ?_
   refine AWp.of ?_;simp only[go_sem]
   refine ret_eq ?_;simp only[go_sem]
   simp only[procF,List.getElem?_eq_getElem hp];rw[if_neg (by simp [h1,h2]),if_pos (by omega)]
  ·have hl:=hs.vars _ hm
   refine Sd ?_
   refine AWp.of ?_;simp only[go_sem]
   refine AWp.range' ps[p].vars.length [] [5,32,33] (fun k vs L=>L=[]∧∀i,i<k→varF ps[p].vars i=0) (by omega) rfl rfl rfl ⟨rfl,by omega⟩ ?_ ?_
   ·rintro k vs L' hk hvs ⟨rfl,hI⟩
    simp only[go_sem]
    have e:ps[p].vars[k]?=some ps[p].vars[k]:=List.getElem?_eq_getElem hk
    refine Sd ?_
    refine AWp.of ?_;simp only[go_sem,getD_map hk]
    refine Sd ?_
    intros
    refine AWp.of ?_;simp only[go_sem]
    refine(trace_isName _).val.use ?_
    simp only[go_sem]
    refine Sd ?_
    refine GCall.use (ab ((ps[p].vars.take k).any fun w=>decide (w.1=ps[p].vars[k].1))) (fun _=>⟨At,(vars_containsFunc (ps[p].vars.take k) (take_le hl) (.clo 204 [.rp 2 [aVar ps[p].vars[k]] 0 0]) rfl (fun w=>decide (w.1=ps[p].vars[k].1)) fun y _=>(trace_processFault2 y ps[p].vars[k]).clo).val.use ⟨rfl,rfl⟩⟩) ?_;simp only[go_sem]
    refine Sd ?_
    refine AWp.of ?_;simp only[go_sem]
    refine⟨fun ht => ?_,fun h4 h5 => ?_⟩
    ·refine Sd ?_
     refine AWp.of ?_;simp only[go_sem]
     refine ret_eq ?_;simp only[go_sem]
     have hv:varF ps[p].vars k=13:=by simp only[varF,e];rw[if_pos (by simpa using ht)]
     simp only[procF,List.getElem?_eq_getElem hp];rw[if_neg (by simp [h1,h2]),if_neg (by omega),fstF_hit hk hI (by rw[hv];decide),hv];simp
    ·refine(trace_in _ _ _).val.use ?_
     simp only[go_sem]
     refine Sd ?_
     refine AWp.of ?_;simp only[go_sem]
     refine⟨fun ht => ?_,fun h6 => ?_⟩
     ·refine Sd ?_
      refine AWp.of ?_;simp only[go_sem]
      refine ret_eq ?_;simp only[go_sem]
      have hv:varF ps[p].vars k=2:=by simp only[varF,e];rw[if_neg (by simp [h4,h5]),if_pos (by simp [ht])]
      simp only[procF,List.getElem?_eq_getElem hp];rw[if_neg (by simp [h1,h2]),if_neg (by omega),fstF_hit hk hI (by rw[hv];decide),hv];simp
     ·refine⟨[],List.Sublist.refl _,rfl,fun i hi => ?_⟩
      by_cases e2:i=k
      ·subst e2;simp only[varF,e];rw[if_neg (by simp [h4,h5]),if_neg (by simp [h6])]
      ·exact hI i (by omega)
   ·rintro vs L' hvs ⟨rfl,hI⟩
    simp only[go_sem]
    refine Sd ?_
    refine AWp.of ?_;simp only[go_sem]
    refine Sd ?_
    refine AWp.of ?_;simp only[go_sem]
    refine⟨fun ht => ?_,fun h6 => ?_⟩
    ·refine Sd ?_
     refine AWp.of ?_;simp only[go_sem]
     refine ret_eq ?_;simp only[go_sem]
     simp only[procF,List.getElem?_eq_getElem hp];rw[if_neg (by simp [h1,h2]),if_neg (by omega),if_neg (by rw[fstF_none hI];simp),if_pos (by omega)]
    ·refine Sd ?_
     refine AWp.of ?_;simp only[go_sem]
     refine Sd ?_
     refine AWp.of ?_;simp only[go_sem]
     refine ret_eq ?_;simp only[go_sem]
     simp only[procF,List.getElem?_eq_getElem hp];rw[if_neg (by simp [h1,h2]),if_neg (by omega),if_neg (by rw[fstF_none hI];simp),if_neg (by omega)]
theorem trace_processFault (ps:List Pr) (hs:Sm ps) (p:Nat) (hp:p<ps.length):PC Proofs.Tryz.prog 175 [aTr ps,ai p] (ai (procF ps p)):=trace_processFaultH ps hs.h p hp
def formedI (n:Nat) (p:Int) (e:Ev):Bool :=
 if e.kind=1 then decide (e.peer=0) && decide (e.msg=0)
 else if e.kind=2∨e.kind=3 then inI e.peer 0 ((n:Int) - 1) && !decide (e.peer=p) && inI e.msg 0 199 else false
def asgF (nv:Nat) (l:List (Int × Int)) (k:Nat):Int :=
 match l[k]? with
 | some a=>if !inI a.1 0 ((nv:Int) - 1) || !inI a.2 (-1073741824) 1073741824 then 2 else if (l.take k).any (fun b=>decide (b.1=a.1)) then 8 else 0
 | none=>0
def lastT (l:List Ev) (i:Nat):Int:=if i=0 then 0 else match l[i - 1]? with|some e=>e.time|none=>0
def evF (ps:List Pr) (p i:Nat):Int :=
 match ps[p]? with
 | some x=>match x.evs[i]? with
  | some e=>if !formedI ps.length p e then 3 else if !inI e.time 0 1099511627776 || decide (e.time<lastT x.evs i) then 11 else if 8<e.asg.length then 5 else fstF (asgF x.vars.length e.asg) e.asg.length
  | none=>0
 | none=>0
theorem trace_formed (ps:List Pr) (hs:Sm ps) (p:Int) (e:Ev):PC Proofs.Tryz.prog 206 [aTr ps,ai p,aEv e] (ab (formedI ps.length p e)):=by
 have hl:=hs.procs
 refine PC.enter 40 [.tmp 6] [3,5] Proofs.Tryz.func206 rfl rfl rfl rfl rfl (by simp) (AWp.of ?_);simp only[go_sem]
 refine Wk ?_
 refine⟨fun h1 => ?_,fun h1 => ?_⟩
 ·refine Wk ?_
  refine ret_eq ?_;simp only[go_sem]
  unfold formedI;rw[if_pos h1]
 ·refine Wk ?_
  refine⟨fun h2 => ?_,fun h2 => ?_⟩
  ·refine W1 h2 ?_
   refine Sd ?_
   refine(trace_in _ _ _).val.use ?_;simp only[go_sem]
   refine Sd ?_
   refine GCall.use (ab (inI e.msg 0 199)) (fun _=>⟨At,(trace_in _ _ _).val.use ⟨rfl,rfl⟩⟩) ?_;simp only[go_sem]
   refine Wk ?_
   refine ret_eq ?_;simp only[go_sem]
   unfold formedI;rw[if_neg h1,if_pos (by omega)]
  ·refine W1 h2 ?_
   refine⟨fun h3 => ?_,fun h3 => ?_⟩
   ·refine W2 h2 h3 ?_
    refine Sd ?_
    refine(trace_in _ _ _).val.use ?_;simp only[go_sem]
    refine Sd ?_
    refine GCall.use (ab (inI e.msg 0 199)) (fun _=>⟨At,(trace_in _ _ _).val.use ⟨rfl,rfl⟩⟩) ?_;simp only[go_sem]
    refine Wk ?_
    refine ret_eq ?_;simp only[go_sem]
    unfold formedI;rw[if_neg h1,if_pos (by omega)]
   ·refine W2 h2 h3 ?_
    refine ret_eq ?_;simp only[go_sem]
    unfold formedI;rw[if_neg h1,if_neg (by omega)]
theorem trace_eventFault1 (y x:Int × Int):PC Proofs.Tryz.prog 208 [aAsg y,.rp 2 [aAsg x] 0 0] (ab (decide (y.1=x.1))):=by
 refine PC.enter 9 [.tmp 3] [2] Proofs.Tryz.func208 rfl rfl rfl rfl rfl (by simp) (AWp.of ?_);simp only[go_sem]
 refine Sd ?_
 refine AWp.of ?_;simp only[go_sem]
 refine Sd ?_
 refine AWp.of ?_;simp only[go_sem]
 refine ret_eq ?_;simp only[go_sem]
theorem trace_sends1 (e:Ev) (m to:Int):PC Proofs.Tryz.prog 225 [aEv e,.rp 1 [ai m] 0 0,.rp 1 [ai to] 0 0] (ab (decide (e.kind=2) && decide (e.msg=m) && decide (e.peer=to))):=by
 refine PC.enter 20 [.tmp 4] [3] Proofs.Tryz.func225 rfl rfl rfl rfl rfl (by simp) (AWp.of ?_);simp only[go_sem]
 refine Sd ?_
 refine AWp.of ?_;simp only[go_sem]
 refine Sd ?_
 refine AWp.of ?_;simp only[go_sem]
 refine ret_eq ?_;simp only[go_sem]
theorem trace_sends (ps:List Pr) (hs:Sm ps) (p:Nat) (hp:p<ps.length) (m to:Int):PC Proofs.Tryz.prog 209 [aTr ps,ai p,ai m,ai to] (ab (ps[p].evs.any fun e=>decide (e.kind=2) && decide (e.msg=m) && decide (e.peer=to))):=by
 have hm:=List.getElem_mem hp
 refine PC.enter 17 [.tmp 8] [4,6,7] Proofs.Tryz.func209 rfl rfl rfl rfl rfl (by simp) (AWp.of ?_);simp only[go_sem]
 refine Sd ?_
 refine AWp.of ?_;simp only[go_sem,getD_map hp]
 refine Sd ?_
 refine(events_containsFunc ps[p].evs (hs.evs _ hm) (.clo 225 [.rp 1 [ai m] 0 0,.rp 1 [ai to] 0 0]) rfl (fun e=>decide (e.kind=2) && decide (e.msg=m) && decide (e.peer=to)) fun e _=>(trace_sends1 e m to).clo).val.use ?_;simp only[go_sem]
 refine Sd ?_
 refine AWp.of ?_;simp only[go_sem]
 refine ret_eq ?_;simp only[go_sem]
theorem trace_eventFault (ps:List Pr) (hs:Sm ps) (p:Nat) (hp:p<ps.length) (i:Nat) (hi:i<ps[p].evs.length) :
  PC Proofs.Tryz.prog 177 [aTr ps,aEid (p,(i:Int)+1),aEv ps[p].evs[i]] (ai (evF ps p i)):=by
 have hm:=List.getElem_mem hp
 have hl:=hs.procs
 have hel:=hs.evs _ hm
 have hvl:=hs.vars _ hm
 have hal:=hs.asg _ hm _ (List.getElem_mem hi)
 have e1:ps[p]?=some ps[p]:=List.getElem?_eq_getElem hp
 have e2:ps[p].evs[i]?=some ps[p].evs[i]:=List.getElem?_eq_getElem hi
 generalize hx:ps[p]=x at *
 generalize hev:x.evs[i]=e at *
 refine PC.enter 82 [.tmp 6] [3,4,5,7,10] Proofs.Tryz.func177 rfl rfl rfl rfl rfl (by simp) (AWp.of ?_);simp only[go_sem]
 refine Sd ?_
 refine AWp.of ?_;simp only[go_sem,getD_map hp,hx]
 refine Sd ?_
 intros
 refine AWp.of ?_;simp only[go_sem,getD_map hp,hx]
 refine AWp.cut [3,4,5,7,8] (fun vs L=>L=[]∧vs=[.rp 1 [aTr ps] 0 0,.rp 2 [aEid (p,(i:Int)+1)] 0 0,.rp 5 [aEv e] 0 0,.rp 3 [aPr x] 0 0,ai (lastT x.evs i)]) ?_ ?_
 ·repeat(first|((with_reducible refine AWp.ofC ?_ ?_);exact rfl;simp only[go_sem,getD_map hp])|((with_reducible refine an ?_ ?_);exact Au))
  refine⟨fun h => ?_,fun h => ?_⟩
  ·have e3:((i:Int)+1 - 2).toNat=i - 1:=by omega
   have h4:i - 1<x.evs.length:=by omega
   simp only[go_sem,e3,getD_map h4]
   refine Sd ?_
   refine⟨[],List.Sublist.refl _,rfl,?_⟩
   simp only[lastT,List.getElem?_eq_getElem h4];rw[if_neg (by omega)]
  ·refine⟨[],List.Sublist.refl _,rfl,?_⟩
   simp only[lastT];rw[if_pos (by omega)]
 ·rintro vs L' - ⟨rfl,rfl⟩
  simp only[go_sem]
  have ex:evF ps p i=if !formedI ps.length p e then 3 else if !inI e.time 0 1099511627776 || decide (e.time<lastT x.evs i) then 11 else if 8<e.asg.length then 5 else fstF (asgF x.vars.length e.asg) e.asg.length:=by
   simp only[evF,e1,e2]
  refine Wk ?_
  refine Sd ?_
  refine(trace_formed ps hs p e).val.use ?_;simp only[go_sem]
  refine Wk ?_
  refine⟨fun h1 => ?_,fun h1 => ?_⟩
  ·refine Wk ?_
   refine ret_eq ?_;simp only[go_sem]
   rw[ex,if_pos (by simp [h1])]
  ·refine Wk ?_
   refine Sd ?_
   refine(trace_in _ _ _).val.use ?_;simp only[go_sem]
   refine Wk ?_
   refine⟨fun h2 => ?_,fun h2 h3 => ?_⟩
   ·refine Wk ?_
    refine ret_eq ?_;simp only[go_sem]
    rw[ex,if_neg (by rw[h1];decide),if_pos (by rcases h2 with h2|h2;(rw[h2];rfl);(rw[decide_eq_true h2,Bool.or_true]))]
   ·have c1:¬((!formedI ps.length p e)=true):=by rw[h1];decide
    have c2:¬((!inI e.time 0 1099511627776 || decide (e.time<lastT x.evs i))=true):=by rw[h2,decide_eq_false h3];decide
    refine Wk ?_
    refine⟨fun h4 => ?_,fun h4 => ?_⟩
    ·refine Wk ?_
     refine ret_eq ?_;simp only[go_sem]
     rw[ex,if_neg c1,if_neg c2,if_pos (by omega)]
    ·refine Wk ?_
     have ex:evF ps p i=fstF (asgF x.vars.length e.asg) e.asg.length:=by rw[ex,if_neg c1,if_neg c2,if_neg (by omega)]
     refine AWp.range' e.asg.length [] [5,7,52,53] (fun k vs L=>L=[]∧∀i,i<k→asgF x.vars.length e.asg i=0) (by omega) rfl rfl rfl ⟨rfl,by omega⟩ ?_ ?_
     ·rintro k vs L' hk hvs ⟨rfl,hI⟩
      simp only[go_sem]
      have e3:e.asg[k]?=some e.asg[k]:=List.getElem?_eq_getElem hk
      refine Sd ?_
      refine AWp.of ?_;simp only[go_sem,getD_map hk]
      refine Sd ?_
      intros
      refine AWp.of ?_;simp only[go_sem]
      refine Sd ?_
      refine(trace_in _ _ _).val.use ?_;simp only[go_sem]
      refine Sd ?_
      refine GCall.use (ab (inI e.asg[k].2 (-1073741824) 1073741824)) (fun _=>⟨At,(trace_in _ _ _).val.use ⟨rfl,rfl⟩⟩) ?_;simp only[go_sem]
      refine Wk ?_
      refine⟨fun h5 => ?_,fun h5 h6 => ?_⟩
      ·refine Wk ?_
       refine ret_eq ?_;simp only[go_sem]
       have hv:asgF x.vars.length e.asg k=2:=by simp only[asgF,e3];rw[if_pos (by simpa using h5)]
       rw[ex,fstF_hit hk hI (by rw[hv];decide),hv]
      ·refine Wk ?_
       refine Sd ?_
       refine(asgs_containsFunc (e.asg.take k) (take_le hal) (.clo 208 [.rp 2 [aAsg e.asg[k]] 0 0]) rfl (fun b=>decide (b.1=e.asg[k].1)) fun y _=>(trace_eventFault1 y e.asg[k]).clo).val.use ?_;simp only[go_sem]
       refine Wk ?_
       refine⟨fun h7 => ?_,fun h7 => ?_⟩
       ·refine Wk ?_
        refine ret_eq ?_;simp only[go_sem]
        have hv:asgF x.vars.length e.asg k=8:=by simp only[asgF,e3];rw[if_neg (by simp [h5,h6]),if_pos h7]
        rw[ex,fstF_hit hk hI (by rw[hv];decide),hv]
       ·refine⟨[],List.Sublist.refl _,rfl,fun i hi => ?_⟩
        by_cases e4:i=k
        ·subst e4;simp only[asgF,e3];rw[if_neg (by simp [h5,h6]),if_neg (by simp [h7])]
        ·exact hI i (by omega)
     ·rintro vs L' hvs ⟨rfl,hI⟩
      simp only[go_sem]
      refine Wk ?_
      refine ret_eq ?_;simp only[go_sem]
      rw[ex,fstF_none hI]
def evRow (p i:Nat):List Ev→List (Eid × Ev)
 | []=>[]
 | e :: r=>(((p:Int),(i:Int)+1),e) :: evRow p (i+1) r
def evFrom (p:Nat):List Pr→List (Eid × Ev)
 | []=>[]
 | x :: r=>evRow p 0 x.evs ++ evFrom (p+1) r
def evIds (ps:List Pr):List (Eid × Ev):=evFrom 0 ps
def off (ps:List Pr) (p:Nat):Nat:=((ps.take p).map fun x=>x.evs.length).sum
theorem evRow_length (p i:Nat) (l:List Ev):(evRow p i l).length=l.length:=by
 induction l generalizing i with
 | nil=>rfl
 | cons e r ih=>simp [evRow,ih]
theorem evRow_get (p i:Nat) (l:List Ev) (k:Nat):(evRow p i l)[k]?=(l[k]?).map fun e=>(((p:Int),(i:Int)+k+1),e):=by
 induction l generalizing i k with
 | nil=>simp [evRow]
 | cons e r ih =>
  cases k with
  | zero=>simp [evRow]
  | succ k =>
   simp only[evRow,List.getElem?_cons_succ,ih]
   cases r[k]? with
   | none=>rfl
   | some e=>simp;omega
theorem off_succ {ps:List Pr} {p:Nat} (hp:p<ps.length):off ps (p+1)=off ps p+ps[p].evs.length:=by
 unfold off
 rw[List.take_succ_eq_append_getElem hp,List.map_append,List.sum_append];rfl
theorem evFrom_get (q:Nat) (ps:List Pr) (p:Nat) (hp:p<ps.length) (i:Nat) (hi:i<ps[p].evs.length):(evFrom q ps)[off ps p+i]?=some ((((q+p:Nat):Int),(i:Int)+1),ps[p].evs[i]):=by
 induction ps generalizing q p with
 | nil=>simp at hp
 | cons x r ih =>
  cases p with
  | zero =>
   simp only[evFrom,off,List.take_zero,List.map_nil,List.sum_nil,Nat.zero_add]
   simp only[List.getElem_cons_zero] at hi
   rw[List.getElem?_append_left (by rw[evRow_length];exact hi),evRow_get,List.getElem?_eq_getElem hi]
   simp
  | succ p =>
   simp only[List.getElem_cons_succ] at hi ⊢
   simp only[List.length_cons,Nat.add_lt_add_iff_right] at hp
   have h:=ih (q+1) p hp hi
   simp only[evFrom]
   rw[List.getElem?_append_right (by rw[evRow_length];simp [off];omega),evRow_length]
   have e:off (x :: r) (p+1)+i - x.evs.length=off r p+i:=by simp [off];omega
   rw[e,h]
   congr 4;omega
theorem evIds_get {ps:List Pr} {p:Nat} (hp:p<ps.length) {i:Nat} (hi:i<ps[p].evs.length):(evIds ps)[off ps p+i]?=some (((p:Int),(i:Int)+1),ps[p].evs[i]):=by
 have:=evFrom_get 0 ps p hp i hi
 simpa [evIds] using this
theorem evIds_length (ps:List Pr):(evIds ps).length=off ps ps.length:=by
 have:∀q,(evFrom q ps).length=off ps ps.length:=by
  induction ps with
  | nil=>intro q;rfl
  | cons x r ih=>intro q;simp [evFrom,evRow_length,ih,off]
 exact this 0
theorem evIds_inv {ps:List Pr} {k:Nat} {x:Eid × Ev} (h:(evIds ps)[k]?=some x):∃(p:Nat) (hp:p<ps.length) (i:Nat) (hi:i<ps[p].evs.length),k=off ps p+i∧x=(((p:Int),(i:Int)+1),ps[p].evs[i]):=by
 have hk:k<off ps ps.length:=by rw[← evIds_length];exact(List.getElem?_eq_some_iff.1 h).1
 have key:∀n,n≤ps.length→k<off ps n→∃(p:Nat) (hp:p<ps.length) (i:Nat) (hi:i<ps[p].evs.length),k=off ps p+i:=by
  intro n
  induction n with
  | zero=>intro _ h;simp [off] at h
  | succ n ih =>
   intro hn hlt
   by_cases hc:k<off ps n
   ·exact ih (by omega) hc
   ·rw[off_succ (by omega)] at hlt
    exact⟨n,by omega,k - off ps n,by omega,by omega⟩
 obtain⟨p,hp,i,hi,rfl⟩:=key _ (Nat.le_refl _) hk
 rw[evIds_get hp hi] at h
 exact⟨p,hp,i,hi,rfl,(Option.some.inj h).symm⟩
def evArgs (ps:List Pr):List (List AV):=(evIds ps).map fun x=>[aEid x.1,aEv x.2]
theorem evArgs_inv {ps:List Pr} {k:Nat} {x:List AV} (h:(evArgs ps)[k]?=some x) :
  ∃(p:Nat) (hp:p<ps.length) (i:Nat) (hi:i<ps[p].evs.length),k=off ps p+i∧(evIds ps)[k]?=some (((p:Int),(i:Int)+1),ps[p].evs[i])∧x=[aEid (p,(i:Int)+1),aEv ps[p].evs[i]]:=by
 unfold evArgs at h
 rw[List.getElem?_map,Option.map_eq_some_iff] at h
 obtain⟨a,ha,rfl⟩:=h
 obtain⟨p,hp,i,hi,e1,rfl⟩:=evIds_inv ha
 exact⟨p,hp,i,hi,e1,ha,rfl⟩
theorem trace_events (ps:List Pr):PC Proofs.Tryz.prog 176 [aTr ps] (.clo 205 [.rp 1 [aTr ps] 0 0]):=by
 refine PC.enter 4 [.tmp 2] [1] Proofs.Tryz.func176 rfl rfl rfl rfl rfl (by simp) (AWp.of ?_);simp only[go_sem]
 refine Wk ?_
 refine ret_eq ?_;simp only[go_sem]
theorem trace_events1 (ps:List Pr) (hs:Sm ps):IterC Proofs.Tryz.prog (.clo 205 [.rp 1 [aTr ps] 0 0]) (evArgs ps):=by
 intro y L I S hy h0 step
 refine MCalls.clo ?_
 simp only[List.cons_append,List.nil_append]
 have hl:=hs.procs
 have step':∀(p:Nat) (hp:p<ps.length) (i:Nat) (hi:i<ps[p].evs.length) L',I (off ps p+i) L'→MVal Proofs.Tryz.prog y [aEid (p,(i:Int)+1),aEv ps[p].evs[i]] L' fun r L''=>(r=ab true∧I (off ps p+i+1) L'')∨(r=ab false∧S L''):=fun p hp i hi L' hI=>by
  refine step (off ps p+i) _ L' ?_ hI
  unfold evArgs;rw[List.getElem?_map,evIds_get hp hi];rfl
 have hlen:(evArgs ps).length=off ps ps.length:=by unfold evArgs;rw[List.length_map,evIds_length]
 rw[hlen]
 refine MCalls.enter' 33 [] [4,6] Proofs.Tryz.func205 rfl rfl rfl rfl rfl (by simp) (AWp.of ?_);simp only[go_sem]
 refine AWp.range' ps.length [] [0,8,9] (fun k vs L=>I (off ps k) L) (by omega) rfl rfl rfl (by simpa [off] using h0) ?_ ?_
 ·rintro p vs L' hp - hI
  have hm:=List.getElem_mem hp
  have hel:=hs.evs _ hm
  simp only[go_sem]
  refine Sd ?_
  refine AWp.of ?_;simp only[go_sem,getD_map hp]
  refine Sd ?_
  intros
  refine AWp.of ?_;simp only[go_sem]
  refine AWp.range' ps[p].evs.length [] [0,3,8,9,10,16,17] (fun k vs L=>I (off ps p+k) L) (by omega) rfl rfl rfl hI ?_ ?_
  ·rintro i vs L' hi - hI
   simp only[go_sem]
   refine Sd ?_
   refine AWp.of ?_;simp only[go_sem,getD_map hi]
   refine Sd ?_
   intros
   refine AWp.of ?_;simp only[go_sem,hy]
   refine Sd ?_
   refine(step' p hp i hi L' hI).mono ?_
   rintro r L'' (⟨rfl,hI'⟩|⟨rfl,hS⟩)
   ·simp only[go_sem]
    refine Wk ?_
    exact⟨_,List.Sublist.refl _,hI'⟩
   ·simp only[go_sem]
    refine Wk ?_
    refine ret_own ?_
    simp only[go_sem]
    exact .inr hS
  ·rintro vs L' - hI
   simp only[go_sem]
   exact⟨_,List.Sublist.refl _,by rw[off_succ hp];exact hI⟩
 ·rintro vs L' - hI
  simp only[go_sem]
  refine Wk ?_
  refine ret_own ?_
  simp only[go_sem]
  exact .inl hI
end Go.AL
end
