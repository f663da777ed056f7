/- Texts of this claim's proof: WPi, AlBr, AlBr2, AlBr3, AlBr4, AlSrt, WLsf, WCx, AlCutf, AlRed, WCf, WRf8, WDl, WVe, WVt. No condition. -/
import Derived.Test.YteiafajligfbnaaGreatDoorM9
import Derived.Test.YteiafajligfbnaaGreatDoorM4
import Derived.ProofKit
import Derived.Lib.LaidTab
import Derived.Shelf.SlSortCmp.Whole1
import Derived.Test.YteiafajligfbnaaGreatDoorProg
import Derived.Shelf.SlGeneric
import Derived.Test.YteiafajligfbnaaGreatDoorM7
import Derived.Test.YteiafajligfbnaaGreatDoorM5
import Derived.Test.YteiafajligfbnaaGreatDoorM8
section
namespace Go.AL
open Go Go.RowKit
set_option maxRecDepth 4000
theorem predtype_small (ps:List Pr) (hs:Sm ps) (hv:validF ps=true) (t:Pd):szF t≤1000000→okT ps t=true→PC Proofs.Tryz.prog 88 [aTr ps,aPd t] (ab (fitB ps t)):=by
 induction t using Pd.ind with
 | _ k n p q s l ih =>
 intro hz ht
 have hsz:szF (.mk k n p q s l)=szL l+1:=by rw[szF]
 have hll:=szL_len l
 have hsp:=fitB_mk ps k n p q s l
 have hr:=predtype_result k
 have hbd:=fun h=>predtype_bounds ps hs hv (.mk k n p q s l) hz ht h
 have h1:∀x ∈ l,PV Proofs.Tryz.prog (.clo 133 [.rp 1 [aTr ps] 0 0]) [aPd x] (ab (!fitB ps x)):=by
  intro x hx
  have hxi:=szL_mem hx
  have hch:=ih x hx (by omega) ((okT_sub ht).2.2.2 x hx).1
  generalize fitB ps x=b at *
  obtain⟨k2,n2,p2,q2,s2,l2⟩:=x
  refine PC.clo ?_
  simp only[aPd_mk] at *
  refine PC.enter 8 [.tmp 3] [2] Proofs.Tryz.func133 rfl rfl rfl rfl rfl (by simp) (AWp.of ?_);simp only[go_sem]
  refine Wk ?_
  refine Sd ?_
  refine(hch).val.use ?_;simp only[go_sem]
  refine Wk ?_
  refine ret_eq ?_;simp only[go_sem]
 have hc:=preds_containsFunc l (by omega) _ rfl (fun x => !fitB ps x) h1
 have hall:l.all (fitB ps) = !l.any fun x => !fitB ps x:=by rw[List.all_eq_not_any_not]
 rw[hall] at hsp
 generalize (l.any fun x => !fitB ps x)=c at *
 generalize fitB ps (.mk k n p q s l)=F at *
 simp only[Pd.kind] at hbd
 have hrk:resF k=1↔k≤8:=by unfold resF;split <;> omega
 generalize resF k=r at *
 generalize intF ps (.mk k n p q s l)=I at *
 unfold aBd aIv at hbd
 simp only[aPd_mk] at *
 refine PC.enter 23 [.tmp 4] [2,3,5] Proofs.Tryz.func88 rfl rfl rfl rfl rfl (by simp) (AWp.of ?_);simp only[go_sem]
 refine Wk ?_
 refine Sd ?_
 refine(hr).val.use ?_;simp only[go_sem]
 refine Wk ?_
 refine⟨fun h2 => ?_,fun h2 => ?_⟩
 ·have hk:=hrk.1 h2
  rw[if_pos hk] at hsp
  have hbd:=hbd hk
  refine Wk ?_
  refine Sd ?_
  refine(hbd).val.use ?_;simp only[go_sem]
  refine Wk ?_
  intro b5
  refine Wk ?_
  refine ret_eq ?_;simp only[go_sem]
  rw[hsp]
 ·rw[if_neg (fun h=>h2 (hrk.2 h))] at hsp
  refine Wk ?_
  refine Sd ?_
  refine(hc).val.use ?_;simp only[go_sem]
  refine Wk ?_
  refine ret_eq ?_;simp only[go_sem]
  rw[hsp]
theorem predtype_Check (ps:List Pr) (hs:Sm ps) (t:Pd) (hz:szF t≤1000000):PC Proofs.Tryz.prog 51 [aTr ps,aPd t] (ai (checkF ps t)):=by
 have h1:=trace_Valid ps hs
 have h2:=predtype_formed t hz
 have h3:=predtype_resolved ps hs t hz
 have h4:=predtype_typed t hz
 have h5:=fun h1 h2=>predtype_small ps hs h1 t hz h2
 have hsp:checkF ps t=if (validF ps && formedB t)=false then 1 else if allB (resB ps) t=false then 13 else if typedB t=false then 14 else if fitB ps t=false then 9 else 0:=rfl
 have hok:formedB t=true→allB (resB ps) t=true→typedB t=true→okT ps t=true:=fun a b c=>by
  unfold okT;unfold formedB at a;unfold typedB at c
  simp only[Bool.and_eq_true] at a ⊢
  exact⟨⟨a.2,b⟩,c⟩
 generalize checkF ps t=r at *
 generalize okT ps t=O at *
 generalize validF ps=V at *
 generalize formedB t=F at *
 generalize allB (resB ps) t=R at *
 generalize typedB t=T at *
 generalize fitB ps t=S at *
 obtain⟨k,n,p,q,s,l⟩:=t
 simp only[aPd_mk] at *
 refine PC.enter 28 [.tmp 4] [2,3] Proofs.Tryz.func51 rfl rfl rfl rfl rfl (by simp) (AWp.of ?_);simp only[go_sem]
 refine Wk ?_
 refine Sd ?_
 refine(h1).val.use ?_;simp only[go_sem]
 refine Sd ?_
 refine Gc h2 ?_
 refine Sd ?_
 refine Wk ?_
 refine⟨fun h6 => ?_,fun h6 => ?_⟩
 ·refine Wk ?_
  refine ret_eq ?_;simp only[go_sem]
  rw[hsp,if_pos (by cases V <;> simp_all)]
 intro h7
 rw[if_neg (by rw[h6,h7];decide)] at hsp
 refine Wk ?_
 refine Sd ?_
 refine(h3).val.use ?_;simp only[go_sem]
 refine Wk ?_
 refine⟨fun h8 => ?_,fun h8 => ?_⟩
 ·refine Wk ?_
  refine ret_eq ?_;simp only[go_sem]
  rw[hsp,if_pos h8]
 rw[if_neg (by rw[h8];decide)] at hsp
 refine Wk ?_
 refine Sd ?_
 refine(h4).val.use ?_;simp only[go_sem]
 refine Wk ?_
 refine⟨fun h9 => ?_,fun h9 => ?_⟩
 ·refine Wk ?_
  refine ret_eq ?_;simp only[go_sem]
  rw[hsp,if_pos h9]
 rw[if_neg (by rw[h9];decide)] at hsp
 have h5:=h5 h6 (hok h7 h8 h9)
 refine Wk ?_
 refine Sd ?_
 refine(h5).val.use ?_;simp only[go_sem]
 refine Wk ?_
 refine⟨fun h10 => ?_,fun h10 => ?_⟩
 ·refine Wk ?_
  refine ret_eq ?_;simp only[go_sem]
  rw[hsp,if_pos h10]
 rw[if_neg (by rw[h10];decide)] at hsp
 refine Wk ?_
 refine ret_eq ?_;simp only[go_sem]
 rw[hsp]
theorem ref28_kind (k n p q:Int) (s:ByteArray) (l:List Pd):PC Proofs.Tryz.prog 48 [aPd (.mk k n p q s l)] (ai (resF k)):=by
 have hr:resF k=if k≤8 then 1 else 2:=rfl
 generalize resF k=r at *
 refine PC.enter 6 [.tmp 2] [1] Proofs.Tryz.func48 rfl rfl rfl rfl rfl (by simp) (AWp.of ?_);simp only[go_sem]
 refine Wk ?_
 refine⟨fun h1 => ?_,fun h1 => ?_⟩
 ·refine Wk ?_
  refine ret_eq ?_;simp only[go_sem]
  rw[hr,if_pos h1]
 ·refine Wk ?_
  refine ret_eq ?_;simp only[go_sem]
  rw[hr,if_neg h1]
theorem all_and2 {α:Type} (f g:α→Bool) (l:List α):(l.all f && l.all g)=l.all fun x=>f x && g x:=by
 induction l with
 | nil=>rfl
 | cons a r ih=>rw[List.all_cons,List.all_cons,List.all_cons,← ih];cases f a <;> cases g a <;> cases r.all f <;> rfl
theorem ref28_typed (t:Pd):szF t≤1000000→allB locB t=true→PC Proofs.Tryz.prog 46 [aPd t] (ab (allB typB t)):=by
 induction t using Pd.ind with
 | _ k n p q s l ih =>
 intro hz ht
 have hsz:szF (.mk k n p q s l)=szL l+1:=by rw[szF]
 have hll:=szL_len l
 obtain⟨ht1,ht2⟩:=allB_sub ht
 obtain⟨hpl,_⟩:=loc_len ht1
 have hsp:allB typB (.mk k n p q s l)=l.all fun x => !tyNe k x.kind && allB typB x:=by
  rw[allB_mk]
  show ((!l.any fun x=>tyNe k x.kind) && l.all (allB typB))=_
  rw[List.not_any_eq_all_not,all_and2]
 generalize allB typB (.mk k n p q s l)=B at *
 obtain⟨pB,hpB⟩:∃pB:Pd→Bool,pB=fun x => !tyNe k x.kind && allB typB x:=⟨_,rfl⟩
 rw[← hpB] at hsp
 refine PC.enter 32 [.tmp 2] [1] Proofs.Tryz.func46 rfl rfl rfl rfl rfl (by simp) (AWp.of ?_);simp only[go_sem]
 refine Wk ?_
 refine AWp.block (AWp.count 3 l.length [] [1] (fun i vs L=>L=[]∧∀j (hj:j<l.length),j<i→pB l[j]=true) rfl rfl ⟨rfl,by omega⟩ ?_)
 rintro i vs L hi - ⟨rfl,hI⟩
 simp only[go_sem]
 refine Wk ?_
 refine⟨fun h4 => ?_,fun h4 => ?_⟩
 ·have hil:i<l.length:=by omega
  have hk:needF k=if 15≤k then 2 else 1:=by
   unfold needF
   rcases parts_cases k with ⟨e,hc⟩|⟨e,hc⟩|⟨e,hc⟩|e
   ·omega
   ·split <;> split <;> omega
   ·split <;> split <;> omega
   ·omega
  have hgi:=getD_map (f:=aPd) hil
  have hzi:=szL_mem (List.getElem_mem hil)
  have hch:=ih l[i] (List.getElem_mem hil) (by omega) (ht2 _ (List.getElem_mem hil))
  have hnx:=all_next (f:=pB) hI hil
  have hno:=all_not (f:=pB) hil
  have hxt:pB l[i]=true↔resF l[i].kind=needF k∧allB typB l[i]=true:=by rw[hpB];simp only[tyNe,Bool.and_eq_true,Bool.not_eq_true',decide_eq_false_iff_not,Decidable.not_not]
  generalize l[i]=x at *
  generalize allB typB x=bx at *
  obtain⟨k2,n2,p2,q2,s2,l2⟩:=x
  have hkd:=ref28_kind k2 n2 p2 q2 s2 l2
  simp only[aPd_mk,Pd.kind] at hgi hch hkd hxt
  generalize resF k2=r at *
  by_cases h15:15≤k
  ·have hk:needF k=2:=by rw[hk,if_pos h15]
   rw[hk] at hxt
   repeat(first|((with_reducible refine AWp.ofC ?_ ?_);exact rfl;simp only[go_sem,(eq_true h15),hgi])|((with_reducible refine an ?_ ?_);exact Au))
   refine Sd ?_
   refine(hkd).val.use ?_;simp only[go_sem,hgi]
   refine Sd ?_
   refine Gc hch ?_
   refine Sd ?_
   refine Wk ?_
   refine⟨fun h5 => ?_,fun h5 => ?_⟩
   ·refine Wk ?_
    refine ret_eq ?_;simp only[go_sem]
    rw[hsp,hno (by rw[← Bool.not_eq_true,hxt];rintro⟨e1,e2⟩;rcases h5 with h5|h5;exact h5 e1;rw[h5] at e2;cases e2)]
   ·intro h6
    refine Wk ?_
    exact⟨_,List.Sublist.refl _,rfl,hnx (hxt.2 ⟨h5,h6⟩)⟩
  ·have hk:needF k=1:=by rw[hk,if_neg h15]
   rw[hk] at hxt
   refine W2 h15 hgi ?_
   refine Sd ?_
   refine(hkd).val.use ?_;simp only[go_sem,hgi]
   refine Sd ?_
   refine Gc hch ?_
   refine Sd ?_
   refine Wk ?_
   refine⟨fun h5 => ?_,fun h5 => ?_⟩
   ·refine Wk ?_
    refine ret_eq ?_;simp only[go_sem]
    rw[hsp,hno (by rw[← Bool.not_eq_true,hxt];rintro⟨e1,e2⟩;rcases h5 with h5|h5;exact h5 e1;rw[h5] at e2;cases e2)]
   ·intro h6
    refine Wk ?_
    exact⟨_,List.Sublist.refl _,rfl,hnx (hxt.2 ⟨h5,h6⟩)⟩
 ·refine Wk ?_
  refine ret_eq ?_;simp only[go_sem]
  rw[hsp,all_of hI (by omega)]
theorem ref28_fits (ps:List Pr) (hs:Sm ps) (hv:validF ps=true) (t:Pd):szF t≤1000000→okT ps t=true→PC Proofs.Tryz.prog 47 [aTr ps,aPd t] (ab (fitB ps t)):=by
 induction t using Pd.ind with
 | _ k n p q s l ih =>
 intro hz ht
 have hsz:szF (.mk k n p q s l)=szL l+1:=by rw[szF]
 have hll:=szL_len l
 have hsp:=fitB_mk ps k n p q s l
 have hr:=ref28_kind k n p q s l
 have hbd:=fun h=>ref28_interval ps hs hv (.mk k n p q s l) hz ht h
 generalize fitB ps (.mk k n p q s l)=F at *
 simp only[Pd.kind] at hbd
 have hrk:resF k=1↔k≤8:=by unfold resF;split <;> omega
 generalize resF k=r at *
 generalize intF ps (.mk k n p q s l)=I at *
 unfold aBd3 at hbd
 simp only[aPd_mk] at hr hbd
 refine PC.enter 35 [.tmp 4] [2,3] Proofs.Tryz.func47 rfl rfl rfl rfl rfl (by simp) (AWp.of ?_);simp only[go_sem]
 refine Wk ?_
 refine Sd ?_
 refine(hr).val.use ?_;simp only[go_sem]
 refine Wk ?_
 refine⟨fun h2 => ?_,fun h2 => ?_⟩
 ·have hk:=hrk.1 h2
  rw[if_pos hk] at hsp
  have hbd:=hbd hk
  refine Wk ?_
  refine Sd ?_
  refine(hbd).val.use ?_;simp only[go_sem]
  refine Wk ?_
  refine ret_eq ?_;simp only[go_sem]
  rw[hsp]
 rw[if_neg (fun h=>h2 (hrk.2 h))] at hsp
 refine Wk ?_
 refine AWp.block (AWp.count 8 l.length [] [2,3] (fun i vs L=>L=[]∧∀j (hj:j<l.length),j<i→fitB ps l[j]=true) rfl rfl ⟨rfl,by omega⟩ ?_)
 rintro i vs L hi - ⟨rfl,hI⟩
 simp only[go_sem]
 refine Wk ?_
 refine⟨fun h4 => ?_,fun h4 => ?_⟩
 ·have hil:i<l.length:=by omega
  have hgi:=getD_map (f:=aPd) hil
  have hzi:=szL_mem (List.getElem_mem hil)
  have hch:=ih l[i] (List.getElem_mem hil) (by omega) ((okT_sub ht).2.2.2 _ (List.getElem_mem hil)).1
  have hnx:=all_next hI hil
  have hno:=all_not (f:=fitB ps) hil
  generalize l[i]=x at *
  generalize fitB ps x=bx at *
  obtain⟨k2,n2,p2,q2,s2,l2⟩:=x
  simp only[aPd_mk] at hgi hch
  refine AWp.seq (AWp.block (AWp.seq ?_))
  repeat(first|(with_reducible refine AWp.seq ?_)|(with_reducible refine AWp.block ?_))
  refine AWp.mix mixed [0,1,2,3,4,5,6,7] .done (by kernel_rfl) ?_;simp only[go_sem,hgi]
  refine Sd ?_
  refine Gc hch ?_
  refine Sd ?_
  refine Wk ?_
  refine⟨fun h5 => ?_,fun h5 => ?_⟩
  ·refine Wk ?_
   refine ret_eq ?_;simp only[go_sem]
   rw[hsp,hno h5]
  ·refine Wk ?_
   exact⟨_,List.Sublist.refl _,rfl,hnx h5⟩
 ·refine Wk ?_
  refine ret_eq ?_;simp only[go_sem]
  rw[hsp,all_of hI (by omega)]
theorem ref28_Check (ps:List Pr) (hs:Sm ps) (t:Pd) (hz:szF t≤1000000):PC Proofs.Tryz.prog 20 [aTr ps,aPd t] (ai (checkF ps t)):=by
 have h1:=ref12_Valid ps hs
 have h2:=ref28_Formed t hz
 have h3:=ref28_Resolved ps hs t hz
 have h4:formedB t=true→PC Proofs.Tryz.prog 46 [aPd t] (ab (typedB t)):=fun h=>by
  unfold formedB at h;simp only[Bool.and_eq_true] at h
  exact ref28_typed t hz h.2
 have h5:=fun h1 h2=>ref28_fits ps hs h1 t hz h2
 have hsp:checkF ps t=if (validF ps && formedB t)=false then 1 else if allB (resB ps) t=false then 13 else if typedB t=false then 14 else if fitB ps t=false then 9 else 0:=rfl
 have hok:formedB t=true→allB (resB ps) t=true→typedB t=true→okT ps t=true:=fun a b c=>by
  unfold okT;unfold formedB at a;unfold typedB at c
  simp only[Bool.and_eq_true] at a ⊢
  exact⟨⟨a.2,b⟩,c⟩
 generalize checkF ps t=r at *
 generalize okT ps t=O at *
 generalize validF ps=V at *
 generalize formedB t=F at *
 generalize allB (resB ps) t=R at *
 generalize typedB t=T at *
 generalize fitB ps t=S at *
 obtain⟨k,n,p,q,s,l⟩:=t
 simp only[aPd_mk] at *
 refine PC.enter 24 [.tmp 4] [2,3] Proofs.Tryz.func20 rfl rfl rfl rfl rfl (by simp) (AWp.of ?_);simp only[go_sem]
 refine Wk ?_
 refine Sd ?_
 refine(h1).val.use ?_;simp only[go_sem]
 refine Sd ?_
 refine Gc h2 ?_
 refine Sd ?_
 refine Wk ?_
 refine⟨fun h6 => ?_,fun h6 => ?_⟩
 ·refine Wk ?_
  refine ret_eq ?_;simp only[go_sem]
  rw[hsp,if_pos (by cases V <;> simp_all)]
 intro h7
 rw[if_neg (by rw[h6,h7];decide)] at hsp
 have h4:=h4 h7
 refine Wk ?_
 refine Sd ?_
 refine(h3).val.use ?_;simp only[go_sem]
 refine Wk ?_
 refine⟨fun h8 => ?_,fun h8 => ?_⟩
 ·refine Wk ?_
  refine ret_eq ?_;simp only[go_sem]
  rw[hsp,if_pos h8]
 rw[if_neg (by rw[h8];decide)] at hsp
 refine Wk ?_
 refine Sd ?_
 refine(h4).val.use ?_;simp only[go_sem]
 refine Wk ?_
 refine⟨fun h9 => ?_,fun h9 => ?_⟩
 ·refine Wk ?_
  refine ret_eq ?_;simp only[go_sem]
  rw[hsp,if_pos h9]
 rw[if_neg (by rw[h9];decide)] at hsp
 have h5:=h5 h6 (hok h7 h8 h9)
 refine Wk ?_
 refine Sd ?_
 refine(h5).val.use ?_;simp only[go_sem]
 refine Wk ?_
 refine⟨fun h10 => ?_,fun h10 => ?_⟩
 ·refine Wk ?_
  refine ret_eq ?_;simp only[go_sem]
  rw[hsp,if_pos h10]
 rw[if_neg (by rw[h10];decide)] at hsp
 refine Wk ?_
 refine ret_eq ?_;simp only[go_sem]
 rw[hsp]
end Go.AL
end
section
namespace Go.AL
open Go Go.RowKit Go.ChangeShapes Go.WideShapes Go.ChangeAt
theorem Fr.below {W W':World} (h:Fr W (keysOf []) W'):Below W.heap.size W W':=⟨h.os,h.tape,h.output,h.size,fun k hk=>h.block k hk (by rintro⟨x,hx,_⟩;cases hx)⟩
theorem LRel.empty (W:World) (hg:∀g x,GV g=some x→Rel W (fun b=>b<W.heap.size) x (.pointer (some ⟨g,0,none⟩))):LRel W (fun b=>b<W.heap.size) []:=⟨fun _ h=>h,(by intro x hx;cases hx),List.nodup_nil,(by intro x hx;cases hx),hg⟩
theorem PC.calls {P:Program} {f:FuncId} {args:List AV} {x:Value} (h:PC P f args (.v x)) {W:World} {vs:List Value} (hg:∀g x,GV g=some x→Rel W (fun b=>b<W.heap.size) x (.pointer (some ⟨g,0,none⟩))) (hr:Rels W (fun b=>b<W.heap.size) args vs) :
  Calls P f vs.toArray W fun e W'=>e = .returned x∧Below W.heap.size W W' :=
 ((h.2 0 W _ vs (LRel.empty W hg) hr).calls (fun _ d hd=>by cases hd)).mono fun e W' ⟨v,r,L',A',he,⟨hr,_⟩,hf,_,_,_,hv⟩=>by
  subst he hr
  cases hv
  exact⟨rfl,hf.below⟩
def Rd {H:Type} (enc:TypeId × Value→H) (P:Program) (W:World) (t:TypeId) (k:Nat) {α:Type} (E:α→AV) (ok:α→Prop):Prop :=
 ∀fuel cs x,DataW.trod enc P W 0 (fun _=>true) true fuel t cs=some x→∃y,ok y∧elOk k (E y)∧cs.length=k∧∀(i:Nat) c u,(E y).cells[i]?=some c→cs[i]?=some u→Rel W (fun b=>b<W.heap.size) c u
section
variable {H:Type} {enc:TypeId × Value→H} {P:Program} {W:World} {t:TypeId}
theorem Rd.int (ht:P.underlying t=some (.int .i64)):Rd enc P W t 1 ai (fun n=>(Lit.int .i64 n).wf=true):=by
 intro fuel cs x h
 obtain⟨n,rfl,_,hw⟩:=DataW.trod_int ht h
 refine⟨n,hw,⟨rfl,rfl⟩,rfl,fun i c u h1 h2 => ?_⟩
 cases i with
 | zero=>cases h1;cases h2;exact .v _
 | succ i=>cases h2
theorem Rd.str (ht:P.underlying t=some .string):Rd enc P W t 1 (fun s => .v (.string s)) (fun _=>True):=by
 intro fuel cs x h
 obtain⟨s,rfl,_,hw⟩:=DataW.trod_string ht h
 refine⟨s,trivial,⟨rfl,rfl⟩,rfl,fun i c u h1 h2 => ?_⟩
 cases i with
 | zero=>cases h1;cases h2;exact .v _
 | succ i=>cases h2
theorem ofFin {α:Type} {len:Nat} {Q:Nat→α→Prop} (h:∀i,i<len→∃y,Q i y):∃l:List α,l.length=len∧∀(i:Nat) (hi:i<l.length),Q i l[i]:=by
 refine⟨List.ofFn fun i:Fin len=>Classical.choose (h i i.2),List.length_ofFn,fun i hi => ?_⟩
 rw[List.getElem_ofFn]
 exact Classical.choose_spec (h i (by simpa using hi))
theorem add_none (b off n:Nat):(⟨b,off,none⟩:Addr).add n=⟨b,off+n,none⟩:=by
 unfold Addr.add;split
 ·rename_i h;rw[h];rfl
 ·rfl
theorem Rd.slice {α:Type} {E:α→AV} {ok:α→Prop} {e:TypeId} {k:Nat} (ht:P.underlying t=some (.slice e)) (hk:P.cellsOf e=k) (h0:0<k) (he:Rd enc P W e k E ok) :
  Rd enc P W t 1 (fun l:List α => .sl k (l.map E)) (fun l=>l.length≤maxLen∧∀y ∈ l,ok y):=by
 intro fuel cs x h
 rcases DataW.trod_slice ht h with ⟨rfl,_⟩|⟨a,len,cap,elems,rest,n,_,rfl,_,_,hl,hm,hlen,hel,_,_⟩
 ·refine⟨[],⟨by simp,by simp⟩,⟨rfl,rfl⟩,rfl,fun i c u h1 h2 => ?_⟩
  cases i with
  | zero=>cases h1;cases h2;exact .sl0 k none 0 (by simp)
  | succ i=>cases h2
 ·rw[hk] at hel
  obtain⟨l,hll,hli⟩:=ofFin (len:=len) (Q:=fun i y=>∃cs:List Value,ok y∧elOk k (E y)∧cs.length=k∧(∀m,m<k→W.cell? ((a.add (i * k)).add m)=cs[m]?)∧∀(m:Nat) c u,(E y).cells[m]?=some c→cs[m]?=some u→Rel W (fun b=>b<W.heap.size) c u) fun i hi=>by
   have h1:=hel i hi
   rw[List.getElem?_eq_getElem (by omega),Option.bind_eq_some_iff] at h1
   obtain⟨cs,hc,ht⟩:=h1
   obtain⟨y,k1,k2,k3,k4⟩:=he _ _ _ ht
   exact⟨y,cs,k1,k2,k3,(World.cells?_some hc).2.2,k4⟩
  refine⟨l,⟨by omega,fun y hy => ?_⟩,⟨rfl,rfl⟩,rfl,fun i c u h1 h2 => ?_⟩
  ·obtain⟨i,hi,rfl⟩:=List.getElem_of_mem hy
   obtain⟨_,h,_⟩:=hli i (by omega);exact h
  ·cases i with
   | succ i=>cases h2
   | zero =>
    cases h1;cases h2
    by_cases hz:len=0
    ·subst hz
     rw[List.length_eq_zero_iff.1 hll]
     exact .sl0 k _ cap hm
    ·obtain⟨b,off,spot⟩:=a
     obtain⟨cs0,_,_,c3,c4,_⟩:=hli 0 (by omega)
     have hs:spot=none:=by
      have:=c4 0 h0
      have e0:∀a:Addr,a.add 0=a:=fun _=>rfl
      rw[Nat.zero_mul,e0,e0,List.getElem?_eq_getElem (by omega)] at this
      cases spot with
      | none=>rfl
      | some s =>
       exfalso
       unfold World.cell? at this
       split at this
       ·rw[if_pos (show (some s).isSome=true from rfl)] at this;cases this
       ·cases this
     subst hs
     have cell:∀(i:Nat) (hi:i<len) (m:Nat),m<k→∃u,W.cell? ⟨b,off+(i * k+m),none⟩=some u∧∀c,(E (l[i]'(by omega))).cells[m]?=some c→Rel W (fun b=>b<W.heap.size) c u:=fun i hi m hm=>by
      obtain⟨cs,_,_,c3,c4,c5⟩:=hli i (by omega)
      have:=c4 m hm
      rw[add_none,add_none,Nat.add_assoc,List.getElem?_eq_getElem (by omega)] at this
      exact⟨_,this,fun c hc=>c5 m c _ hc (List.getElem?_eq_getElem (by omega))⟩
     have hA:b<W.heap.size:=by
      obtain⟨u,hu,_⟩:=cell 0 (by omega) 0 h0
      unfold World.cell? at hu
      cases hb:W.heap[b]? with
      | none=>simp [hb] at hu
      | some o=>exact(Array.getElem?_eq_some_iff.1 hb).1
     have:=Rel.sl (w:=W) (A:=fun b=>b<W.heap.size) k (l.map E) b off cap (fun j=>(W.cell? ⟨b,off+j,none⟩).getD undef) hA (by rw[List.length_map];omega) hm
      (fun x hx=>by
       obtain⟨y,hy,rfl⟩:=List.mem_map.1 hx
       obtain⟨i,hi,rfl⟩:=List.getElem_of_mem hy
       obtain⟨cs,_,c2,_⟩:=hli i (by omega)
       exact c2)
      (fun j hj=>by
       rw[List.length_map,hll] at hj
       have h1:j / k<len:=(Nat.div_lt_iff_lt_mul h0).2 hj
       obtain⟨u,hu,_⟩:=cell (j / k) h1 (j % k) (Nat.mod_lt _ h0)
       have e:j / k * k+j % k=j:=Nat.div_add_mod' j k
       rw[e] at hu
       rw[hu];rfl)
      (fun i x j y hx hy=>by
       rw[List.getElem?_map,Option.map_eq_some_iff] at hx
       obtain⟨z,hz,rfl⟩:=hx
       obtain⟨hi,rfl⟩:=List.getElem?_eq_some_iff.1 hz
       obtain⟨cs,_,c2,_⟩:=hli i (by omega)
       have hj:j<k:=by have:=(List.getElem?_eq_some_iff.1 hy).1;have:=c2.1;omega
       obtain⟨u,hu,hr⟩:=cell i (by omega) j hj
       rw[hu]
       exact hr _ hy)
     rw[List.length_map,hll] at this
     exact this
theorem trodAll_stays {W':World} (hl:laidOutB P=true) (hb:Below W.heap.size W W'):∀ {ts:List TypeId} {vs:List Value} {ds:List (DataW H)} {ps:List MemPlace},(∀t ∈ ts,P.readableRec t=true∧t<P.types.size)→DataW.TrodAll enc P W 0 (fun _=>true) true ts vs ds ps →
  DataW.TrodAll enc P W' 0 (fun b=>decide (b<W.heap.size)) true ts vs ds ps
 | [],_,_,_,_,h=>by
  obtain⟨rfl,rfl,rfl⟩:=trodAll_nil h
  rfl
 | t :: ts,_,_,_,ht,h=>by
  have hlt:=h.lt
  obtain⟨v,vs1,d,ds1,a,b,rfl,rfl,rfl,h1,h2⟩:=trodAll_cons h
  exact⟨a,b,Below.trod hl (ht t List.mem_cons_self).1 (ht t List.mem_cons_self).2 h1 hb (fun x hx=>hlt x (List.mem_append_left _ hx)),trodAll_stays hl hb (fun t' ht'=>ht t' (List.mem_cons_of_mem _ ht')) h2,rfl⟩
theorem post_true {f:Func} {s:ChangeSpec} {fresh handsOn:Bool} {W':World} {args:Array Value} {ds:List (DataW H)} {before:List MemPlace} {tb:TypeId} (hl:laidOutB P=true)
  (hW:DataW.Whole enc P f.params.toList s.vars false W args.toList ds [] before) (hv:s.vars=[]) (hs:s.fn H (ds ++ []) = { results:=[.lit (.bool true)],args:=ds })
  (hr:f.resultTypes = #[tb]) (ht:P.underlying tb=some .bool) (hp:∀t ∈ f.params.toList,P.readableRec t=true∧t<P.types.size) (hb:Below W.heap.size W W') :
  s.post enc P f false fresh handsOn false W args (.bool true) W':=by
 have hW0:=hW
 obtain⟨p,q,hA,hV,rfl,_,_⟩:=hW0
 refine⟨ds,[],p ++ q,[],p,[],hW,?_,?_,?_,hb.frame _,fun h=>by cases h⟩
 ·rw[hs,hr]
  exact⟨[],[],⟨1,by simp [DataW.trod,Value.cells,ht]⟩,rfl,rfl⟩
 ·rw[hs]
  exact trodAll_stays hl hb hp hA
 ·rw[hs,hv];rfl
end
end Go.AL
end
section
namespace Go.AL
open Go Go.RowKit Go.ChangeShapes Go.WideShapes Go.ChangeAt
section
variable {H:Type} {enc:TypeId × Value→H} {P:Program} {W:World} {t:TypeId}
theorem Rd.map {α β:Type} {k:Nat} {E:α→AV} {E':β→AV} {ok:α→Prop} {ok':β→Prop} (f:α→β) (hE:∀y,E y=E' (f y)) (hok:∀y,ok y→ok' (f y)) (h:Rd enc P W t k E ok):Rd enc P W t k E' ok':=by
 intro fuel cs x hx
 obtain⟨y,k1,k2,k3,k4⟩:=h fuel cs x hx
 exact⟨f y,hok y k1,by rw[← hE];exact k2,k3,by rw[← hE];exact k4⟩
def RdL (enc:TypeId × Value→H) (P:Program) (W:World) (ts:List TypeId) {α:Type} (E:α→List AV) (ok:α→Prop):Prop :=
 ∀(n:Nat) (cs:List Value) (xs:List (DataW H × List MemPlace)),xs.length=ts.length→cs.length=ts.length →
  (∀(i:Nat) t,ts[i]?=some t→DataW.trod enc P W 0 (fun _=>true) true n t ((cs.drop i).take 1)=xs[i]?) →
  ∃y,ok y∧(E y).length=ts.length∧(E y).all one=true∧∀(i:Nat) c u,(E y)[i]?=some c→cs[i]?=some u→Rel W (fun b=>b<W.heap.size) c u
theorem RdL.nil:RdL enc P W [] (fun _:Unit=>[]) (fun _=>True):=by
 intro n cs xs _ _ _
 exact⟨(),trivial,rfl,rfl,fun i c u h=>by simp at h⟩
theorem RdL.cons {α β:Type} {E:α→AV} {ok:α→Prop} {ts:List TypeId} {F:β→List AV} {ok':β→Prop} (h:Rd enc P W t 1 E ok) (h1:∀y,one (E y)=true∧(E y).cells=[E y]) (hs:RdL enc P W ts F ok') :
  RdL enc P W (t :: ts) (fun y:α × β=>E y.1 :: F y.2) (fun y=>ok y.1∧ok' y.2):=by
 intro n cs xs hx hc hi
 match xs,cs,hx,hc with
 | x :: xs,u :: cs,hx,hc =>
  have h0:=hi 0 t rfl
  simp only[List.drop_zero,List.take_succ_cons,List.take_zero,List.getElem?_cons_zero] at h0
  obtain⟨y,k1,_,_,k4⟩:=h _ _ _ h0
  obtain⟨z,g1,g2,g3,g4⟩:=hs n cs xs (by simpa using hx) (by simpa using hc) fun i t' ht=>by
   have:=hi (i+1) t' (by simpa using ht)
   simpa using this
  refine⟨(y,z),⟨k1,g1⟩,by simp [g2],by simp [g3,(h1 y).1],fun i c u' hcc hu => ?_⟩
  cases i with
  | zero=>cases hcc;cases hu;exact k4 0 _ _ (by rw[(h1 y).2];rfl) rfl
  | succ i=>exact g4 i c u' (by simpa using hcc) (by simpa using hu)
theorem Rd.struct {fs:Array Field} {α:Type} {ts:List TypeId} {F:α→List AV} {ok:α→Prop} (ht:P.underlying t=some (.struct fs)) (hts:fs.toList.map (·.type)=ts) (hof:fs.toList.map (·.offset)=List.range ts.length) (hk:P.cellsOf t=ts.length)
  (hc:(ts.all fun t=>P.cellsOf t == 1)=true) (h:RdL enc P W ts F ok):Rd enc P W t ts.length (fun y => .agg (F y)) ok:=by
 intro fuel cs x hx
 obtain⟨xs,n,_,_,hl,hlen,hf⟩:=DataW.trod_struct ht hx
 have hfl:fs.size=ts.length:=by rw[← hts];simp
 obtain⟨y,k1,k2,k3,k4⟩:=h n cs xs (by omega) (by omega) fun i t' ht'=>by
  have hi:i<ts.length:=(List.getElem?_eq_some_iff.1 ht').1
  have hg:fs[i]?=some fs[i]:=Array.getElem?_eq_getElem (by omega)
  have e1:(fs[i]).type=t':=by
   rw[← hts,List.getElem?_map,Array.getElem?_toList,hg] at ht'
   exact Option.some.inj ht'
  have e2:(fs[i]).offset=i:=by
   have:(fs.toList.map (·.offset))[i]?=some i:=by rw[hof,List.getElem?_range hi]
   rw[List.getElem?_map,Array.getElem?_toList,hg] at this
   exact Option.some.inj this
  have:=hf i _ hg
  have hct:P.cellsOf t'=1:=by
   have:=List.all_eq_true.1 hc _ (List.mem_of_getElem? ht')
   simpa using this
  rw[e1,e2,hct] at this
  exact this
 exact⟨y,k1,⟨k2,k3⟩,by omega,k4⟩
theorem Rd.agg {α:Type} {k:Nat} {E:α→AV} {F:α→List AV} {ok:α→Prop} (hE:∀y,E y = .agg (F y)) (h:Rd enc P W t k E ok) {v:Value} {d:DataW H} {ps:List MemPlace} (ha:∃us,v = .agg us)
  (hd:DataW.Trod enc P W 0 (fun _=>true) true t v d ps):∃y,ok y∧Rel W (fun b=>b<W.heap.size) (E y) v:=by
 obtain⟨us,rfl⟩:=ha
 obtain⟨fuel,hf⟩:=hd
 obtain⟨y,k1,k2,k3,k4⟩:=h _ _ _ hf
 refine⟨y,k1,?_⟩
 have e1:(E y).cells=F y:=by rw[hE];rfl
 have e2:(Value.agg us).cells.toList=us.toList:=rfl
 have k5:=k2.1
 rw[e1] at k4 k5
 rw[e2] at k3 k4
 rw[hE]
 refine .agg _ _ ?_ fun i c u h1 h2=>k4 i c u h1 (by simpa using h2)
 rw[k5,← k3];simp
theorem okWide_agg {r:Go.Reach} {b:Nat} {fs:Array Field} {v:Value} (ht:P.underlying t=some (.struct fs)) (h:Value.okWide P W r b t v):∃us,v = .agg us:=by
 unfold Value.okWide at h
 rw[ht] at h
 obtain⟨cs,h1,_⟩:=h
 exact⟨cs,h1⟩
theorem Rd.one {α:Type} {E:α→AV} {ok:α→Prop} (h:Rd enc P W t 1 E ok) (h1:∀y,(E y).cells=[E y]) {v:Value} {d:DataW H} {ps:List MemPlace} (hc:v.cells = #[v])
  (hd:DataW.Trod enc P W 0 (fun _=>true) true t v d ps):∃y,ok y∧Rel W (fun b=>b<W.heap.size) (E y) v:=by
 obtain⟨fuel,hf⟩:=hd
 rw[hc] at hf
 obtain⟨y,k1,_,_,k4⟩:=h _ _ _ hf
 exact⟨y,k1,k4 0 _ _ (by rw[h1];rfl) rfl⟩
theorem okWide_cells {r:Go.Reach} {b:Nat} {e:TypeId} {v:Value} (ht:P.underlying t=some (.slice e)) (h:Value.okWide P W r b t v):v.cells = #[v]:=by
 cases v with
 | agg cs =>
  exfalso
  simp only[Value.okWide,ht,Cell.okWide,Cell.ok] at h
 | _=>rfl
end
end Go.AL
end
section
namespace Go.AL
open Go Go.RowKit Go.ChangeShapes Go.WideShapes Go.ChangeAt
def RdF {H:Type} (enc:TypeId × Value→H) (P:Program) (W:World) (N:Nat) (t:TypeId) (k:Nat) {α:Type} (E:α→AV) (ok:α→Prop):Prop :=
 ∀fuel cs x,fuel≤N→DataW.trod enc P W 0 (fun _=>true) true fuel t cs=some x→∃y,ok y∧elOk k (E y)∧cs.length=k∧∀(i:Nat) c u,(E y).cells[i]?=some c→cs[i]?=some u→Rel W (fun b=>b<W.heap.size) c u
section
variable {H:Type} {enc:TypeId × Value→H} {P:Program} {W:World} {t:TypeId}
theorem Rd.bounded {α:Type} {k:Nat} {E:α→AV} {ok:α→Prop} (h:Rd enc P W t k E ok) (N:Nat):RdF enc P W N t k E ok:=fun fuel cs x _ hx=>h fuel cs x hx
theorem RdF.all {α:Type} {k:Nat} {E:α→AV} {ok:α→Prop} (h:∀N,RdF enc P W N t k E ok):Rd enc P W t k E ok:=fun fuel cs x hx=>h fuel fuel cs x (Nat.le_refl _) hx
theorem RdF.mono {α:Type} {k:Nat} {E:α→AV} {ok:α→Prop} {N M:Nat} (h:RdF enc P W N t k E ok) (hM:M≤N):RdF enc P W M t k E ok:=fun fuel cs x hf hx=>h fuel cs x (by omega) hx
theorem RdF.zero {α:Type} {k:Nat} {E:α→AV} {ok:α→Prop} : RdF enc P W 0 t k E ok:=fun fuel cs x hf hx=>by
 obtain rfl:fuel=0:=by omega
 simp [DataW.trod] at hx
theorem RdF.map {α β:Type} {k:Nat} {N:Nat} {E:α→AV} {E':β→AV} {ok:α→Prop} {ok':β→Prop} (f:α→β) (hE:∀y,E y=E' (f y)) (hok:∀y,ok y→ok' (f y)) (h:RdF enc P W N t k E ok):RdF enc P W N t k E' ok':=by
 intro fuel cs x hN hx
 obtain⟨y,k1,k2,k3,k4⟩:=h fuel cs x hN hx
 exact⟨f y,hok y k1,by rw[← hE];exact k2,k3,by rw[← hE];exact k4⟩
theorem RdF.slice {N:Nat} {α:Type} {E:α→AV} {ok:α→Prop} {e:TypeId} {k:Nat} (ht:P.underlying t=some (.slice e)) (hk:P.cellsOf e=k) (h0:0<k) (he:RdF enc P W N e k E ok) :
  RdF enc P W (N+1) t 1 (fun l:List α => .sl k (l.map E)) (fun l=>l.length≤maxLen∧∀y ∈ l,ok y):=by
 intro fuel cs x hN h
 rcases DataW.trod_slice ht h with ⟨rfl,_⟩|⟨a,len,cap,elems,rest,n,hfu,rfl,_,_,hl,hm,hlen,hel,_,_⟩
 ·refine⟨[],⟨by simp,by simp⟩,⟨rfl,rfl⟩,rfl,fun i c u h1 h2 => ?_⟩
  cases i with
  | zero=>cases h1;cases h2;exact .sl0 k none 0 (by simp)
  | succ i=>cases h2
 ·rw[hk] at hel
  obtain⟨l,hll,hli⟩:=ofFin (len:=len) (Q:=fun i y=>∃cs:List Value,ok y∧elOk k (E y)∧cs.length=k∧(∀m,m<k→W.cell? ((a.add (i * k)).add m)=cs[m]?)∧∀(m:Nat) c u,(E y).cells[m]?=some c→cs[m]?=some u→Rel W (fun b=>b<W.heap.size) c u) fun i hi=>by
   have h1:=hel i hi
   rw[List.getElem?_eq_getElem (by omega),Option.bind_eq_some_iff] at h1
   obtain⟨cs,hc,ht⟩:=h1
   obtain⟨y,k1,k2,k3,k4⟩:=he _ _ _ (by omega) ht
   exact⟨y,cs,k1,k2,k3,(World.cells?_some hc).2.2,k4⟩
  refine⟨l,⟨by omega,fun y hy => ?_⟩,⟨rfl,rfl⟩,rfl,fun i c u h1 h2 => ?_⟩
  ·obtain⟨i,hi,rfl⟩:=List.getElem_of_mem hy
   obtain⟨_,h,_⟩:=hli i (by omega);exact h
  ·cases i with
   | succ i=>cases h2
   | zero =>
    cases h1;cases h2
    by_cases hz:len=0
    ·subst hz
     rw[List.length_eq_zero_iff.1 hll]
     exact .sl0 k _ cap hm
    ·obtain⟨b,off,spot⟩:=a
     obtain⟨cs0,_,_,c3,c4,_⟩:=hli 0 (by omega)
     have hs:spot=none:=by
      have:=c4 0 h0
      have e0:∀a:Addr,a.add 0=a:=fun _=>rfl
      rw[Nat.zero_mul,e0,e0,List.getElem?_eq_getElem (by omega)] at this
      cases spot with
      | none=>rfl
      | some s =>
       exfalso
       unfold World.cell? at this
       split at this
       ·rw[if_pos (show (some s).isSome=true from rfl)] at this;cases this
       ·cases this
     subst hs
     have cell:∀(i:Nat) (hi:i<len) (m:Nat),m<k→∃u,W.cell? ⟨b,off+(i * k+m),none⟩=some u∧∀c,(E (l[i]'(by omega))).cells[m]?=some c→Rel W (fun b=>b<W.heap.size) c u:=fun i hi m hm=>by
      obtain⟨cs,_,_,c3,c4,c5⟩:=hli i (by omega)
      have:=c4 m hm
      rw[add_none,add_none,Nat.add_assoc,List.getElem?_eq_getElem (by omega)] at this
      exact⟨_,this,fun c hc=>c5 m c _ hc (List.getElem?_eq_getElem (by omega))⟩
     have hA:b<W.heap.size:=by
      obtain⟨u,hu,_⟩:=cell 0 (by omega) 0 h0
      unfold World.cell? at hu
      cases hb:W.heap[b]? with
      | none=>simp [hb] at hu
      | some o=>exact(Array.getElem?_eq_some_iff.1 hb).1
     have:=Rel.sl (w:=W) (A:=fun b=>b<W.heap.size) k (l.map E) b off cap (fun j=>(W.cell? ⟨b,off+j,none⟩).getD undef) hA (by rw[List.length_map];omega) hm
      (fun x hx=>by
       obtain⟨y,hy,rfl⟩:=List.mem_map.1 hx
       obtain⟨i,hi,rfl⟩:=List.getElem_of_mem hy
       obtain⟨cs,_,c2,_⟩:=hli i (by omega)
       exact c2)
      (fun j hj=>by
       rw[List.length_map,hll] at hj
       have h1:j / k<len:=(Nat.div_lt_iff_lt_mul h0).2 hj
       obtain⟨u,hu,_⟩:=cell (j / k) h1 (j % k) (Nat.mod_lt _ h0)
       have e:j / k * k+j % k=j:=Nat.div_add_mod' j k
       rw[e] at hu
       rw[hu];rfl)
      (fun i x j y hx hy=>by
       rw[List.getElem?_map,Option.map_eq_some_iff] at hx
       obtain⟨z,hz,rfl⟩:=hx
       obtain⟨hi,rfl⟩:=List.getElem?_eq_some_iff.1 hz
       obtain⟨cs,_,c2,_⟩:=hli i (by omega)
       have hj:j<k:=by have:=(List.getElem?_eq_some_iff.1 hy).1;have:=c2.1;omega
       obtain⟨u,hu,hr⟩:=cell i (by omega) j hj
       rw[hu]
       exact hr _ hy)
     rw[List.length_map,hll] at this
     exact this
def RdFL (enc:TypeId × Value→H) (P:Program) (W:World) (N:Nat) (ts:List TypeId) {α:Type} (E:α→List AV) (ok:α→Prop):Prop :=
 ∀(n:Nat) (cs:List Value) (xs:List (DataW H × List MemPlace)),n≤N→xs.length=ts.length→cs.length=ts.length →
  (∀(i:Nat) t,ts[i]?=some t→DataW.trod enc P W 0 (fun _=>true) true n t ((cs.drop i).take 1)=xs[i]?) →
  ∃y,ok y∧(E y).length=ts.length∧(E y).all one=true∧∀(i:Nat) c u,(E y)[i]?=some c→cs[i]?=some u→Rel W (fun b=>b<W.heap.size) c u
theorem RdFL.nil {N:Nat} : RdFL enc P W N [] (fun _:Unit=>[]) (fun _=>True):=by
 intro n cs xs _ _ _ _
 exact⟨(),trivial,rfl,rfl,fun i c u h=>by simp at h⟩
theorem RdFL.cons {N:Nat} {α β:Type} {E:α→AV} {ok:α→Prop} {ts:List TypeId} {F:β→List AV} {ok':β→Prop} (h:RdF enc P W N t 1 E ok) (h1:∀y,one (E y)=true∧(E y).cells=[E y]) (hs:RdFL enc P W N ts F ok') :
  RdFL enc P W N (t :: ts) (fun y:α × β=>E y.1 :: F y.2) (fun y=>ok y.1∧ok' y.2):=by
 intro n cs xs hN hx hc hi
 match xs,cs,hx,hc with
 | x :: xs,u :: cs,hx,hc =>
  have h0:=hi 0 t rfl
  simp only[List.drop_zero,List.take_succ_cons,List.take_zero,List.getElem?_cons_zero] at h0
  obtain⟨y,k1,_,_,k4⟩:=h _ _ _ hN h0
  obtain⟨z,g1,g2,g3,g4⟩:=hs n cs xs hN (by simpa using hx) (by simpa using hc) fun i t' ht=>by
   have:=hi (i+1) t' (by simpa using ht)
   simpa using this
  refine⟨(y,z),⟨k1,g1⟩,by simp [g2],by simp [g3,(h1 y).1],fun i c u' hcc hu => ?_⟩
  cases i with
  | zero=>cases hcc;cases hu;exact k4 0 _ _ (by rw[(h1 y).2];rfl) rfl
  | succ i=>exact g4 i c u' (by simpa using hcc) (by simpa using hu)
theorem RdF.struct {N:Nat} {fs:Array Field} {α:Type} {ts:List TypeId} {F:α→List AV} {ok:α→Prop} (ht:P.underlying t=some (.struct fs)) (hts:fs.toList.map (·.type)=ts) (hof:fs.toList.map (·.offset)=List.range ts.length) (hk:P.cellsOf t=ts.length)
  (hc:(ts.all fun t=>P.cellsOf t == 1)=true) (h:RdFL enc P W N ts F ok):RdF enc P W (N+1) t ts.length (fun y => .agg (F y)) ok:=by
 intro fuel cs x hN hx
 obtain⟨xs,n,hfu,_,hl,hlen,hf⟩:=DataW.trod_struct ht hx
 have hfl:fs.size=ts.length:=by rw[← hts];simp
 obtain⟨y,k1,k2,k3,k4⟩:=h n cs xs (by omega) (by omega) (by omega) fun i t' ht'=>by
  have hi:i<ts.length:=(List.getElem?_eq_some_iff.1 ht').1
  have hg:fs[i]?=some fs[i]:=Array.getElem?_eq_getElem (by omega)
  have e1:(fs[i]).type=t':=by
   rw[← hts,List.getElem?_map,Array.getElem?_toList,hg] at ht'
   exact Option.some.inj ht'
  have e2:(fs[i]).offset=i:=by
   have:(fs.toList.map (·.offset))[i]?=some i:=by rw[hof,List.getElem?_range hi]
   rw[List.getElem?_map,Array.getElem?_toList,hg] at this
   exact Option.some.inj this
  have:=hf i _ hg
  have hct:P.cellsOf t'=1:=by
   have:=List.all_eq_true.1 hc _ (List.mem_of_getElem? ht')
   simpa using this
  rw[e1,e2,hct] at this
  exact this
 exact⟨y,k1,⟨k2,k3⟩,by omega,k4⟩
end
end Go.AL
end
section
namespace Go.AL
open Go Go.RowKit
theorem Rel.tabK {P:Program} {W:World} {name:String} {k:IntKind} {zs:List Int} {g:Nat} (h:Lib.TabIs P W name k zs) (hg:P.globalNamed name=some g) (hz:0<zs.length) :
  Rel W (fun b=>b<W.heap.size) (.rp 1 (zs.map fun z => .v (.int k z)) 0 0) (.pointer (some ⟨g,0,none⟩)):=by
 have hA:g<W.heap.size:=by
  have hu:=h.cell hg 0 hz
  unfold World.cell? at hu
  cases hb:W.heap[g]? with
  | none=>simp [hb] at hu
  | some o=>exact(Array.getElem?_eq_some_iff.1 hb).1
 have:=Rel.rp (w:=W) (A:=fun b=>b<W.heap.size) 1 (zs.map fun z => .v (.int k z)) 0 0 g 0 (fun i => .int k (zs.getD i 0)) hA
  (fun x hx=>by obtain⟨z,_,rfl⟩:=List.mem_map.1 hx;exact⟨rfl,rfl⟩)
  (fun i hi=>by
   rw[List.length_map] at hi
   have:=h.cell hg i (by omega)
   simpa using this)
  (fun i x j y hx hy=>by
   rw[List.getElem?_map,Option.map_eq_some_iff] at hx
   obtain⟨z,hz,rfl⟩:=hx
   cases j with
   | succ j=>cases hy
   | zero =>
    cases hy
    have e:zs.getD i 0=z:=by rw[List.getD_eq_getElem?_getD,hz];rfl
    simp only[Nat.mul_one,Nat.add_zero,e]
    exact .v _)
 exact this
end Go.AL
end
section
namespace Go.AL
open Go Go.RowKit Go.Lib Go.Sort Go.Proofs Go.Shelf
structure Item (w:World) (A:Foot) {β:Type} (av:β→AV) (Q:β→Prop) where
 u:Value
 x:β
 rel:Rel w A (av x) u
 ok:Q x
theorem grow_of_Fr {w w':World} {M:Foot} (h:Fr w M w') (hM:∀b,¬M b):∃q os,w'=grow (w.drewN q) os:=by
 refine⟨w'.drawn - w.drawn,w'.heap.extract w.heap.size w'.heap.size,?_⟩
 have hh:w'.heap=w.heap ++ w'.heap.extract w.heap.size w'.heap.size:=by
  apply Array.ext_getElem?
  intro k
  by_cases hk:k<w.heap.size
  ·rw[Array.getElem?_append_left hk];exact h.block k hk (hM k)
  ·rw[Array.getElem?_append_right (by omega),Array.getElem?_extract]
   have:=h.size
   by_cases hk2:k<w'.heap.size
   ·rw[if_pos (by omega)];congr 1;omega
   ·rw[if_neg (by omega)];exact Array.getElem?_eq_none (by omega)
 have hd:=h.drawn
 obtain⟨heap,tape,drawn,os,out⟩:=w'
 simp only[grow,World.drewN,World.mk.injEq]
 exact⟨hh,h.tape,by simp only at hd ⊢;omega,h.os,h.output⟩
theorem sortWorld_heap_ne {α:Type} [Inhabited α] (enc:α→Value) (w:World) (b o m:Nat) (d:Array α) (os:Array Obj) {k:Nat} (hk:k<w.heap.size) (hb:k ≠ b) :
  (sortWorld enc w b o m d os).heap[k]?=w.heap[k]?:=by
 simp only[sortWorld,grow,putRow,mapBlock,Sort.ahead]
 rw[Array.getElem?_append_left (by simpa using hk),Array.getElem?_modify,if_neg (fun e=>hb e.symm)]
theorem sortWorld_heap_eq {α:Type} [Inhabited α] (enc:α→Value) (w:World) (b o m:Nat) (d:Array α) (os:Array Obj) {c:Array Value} {t:TypeId} {fr:Nat × Nat} (h:w.heap[b]?=some (.cells c t fr)) :
  (sortWorld enc w b o m d os).heap[b]?=some (.cells (putCells enc o d c) t fr):=by
 have hk:b<w.heap.size:=(Array.getElem?_eq_some_iff.1 h).1
 simp only[sortWorld,grow,putRow,mapBlock,Sort.ahead]
 rw[Array.getElem?_append_left (by simpa using hk),Array.getElem?_modify,if_pos rfl,h]
 rfl
theorem sortWorld_size {α:Type} [Inhabited α] (enc:α→Value) (w:World) (b o m:Nat) (d:Array α) (os:Array Obj):w.heap.size≤(sortWorld enc w b o m d os).heap.size:=by
 simp only[sortWorld,grow,putRow,mapBlock,Sort.ahead,Array.size_append,Array.size_modify];omega
end Go.AL
end
section
namespace Go.AL
open Go Go.RowKit Go.Lib Go.Sort Go.Proofs Go.Shelf
end Go.AL
end
section
namespace Go.AL
open Go Go.RowKit Go.Sort Go.Proofs
set_option maxRecDepth 4000
def cmpL:List Int→List Int→Int
 | [],[]=>0
 | [],_ :: _ => -1
 | _ :: _,[]=>1
 | x :: xs,y :: ys=>if x<y then -1 else if y<x then 1 else cmpL xs ys
theorem nan_int (x:Int):PC Proofs.Tryz.prog 96 [ai x] (ab false):=by
 refine PC.enter 6 [.tmp 2] [] Proofs.Tryz.func96 rfl rfl rfl rfl rfl (by simp) (AWp.of ?_);simp only[go_sem]
 refine Wk ?_
 refine ret_eq ?_;simp only[go_sem]
def cmpI (x y:Int):Int:=if x<y then -1 else if y<x then 1 else 0
theorem cmp_int (x y:Int):PC Proofs.Tryz.prog 57 [ai x,ai y] (ai (cmpI x y)):=by
 refine PC.enter 20 [.tmp 4] [] Proofs.Tryz.func57 rfl rfl rfl rfl rfl (by simp) (AWp.of ?_);simp only[go_sem]
 refine Wk ?_
 refine Sd ?_
 refine(nan_int x).val.use ?_;simp only[go_sem]
 refine Wk ?_
 refine Sd ?_
 refine(nan_int y).val.use ?_;simp only[go_sem]
 refine Wk ?_
 refine Wk ?_
 refine⟨fun h => ?_,fun h => ?_⟩
 ·refine Wk ?_
  refine ret_eq ?_;simp only[go_sem]
  unfold cmpI;rw[if_pos h]
 ·refine Wk ?_
  refine⟨fun h2 => ?_,fun h2 => ?_⟩
  ·refine Wk ?_
   refine ret_eq ?_;simp only[go_sem]
   unfold cmpI;rw[if_neg h,if_pos (by omega)]
  ·refine Wk ?_
   refine ret_eq ?_;simp only[go_sem]
   unfold cmpI;rw[if_neg h,if_neg (by omega)]
end Go.AL
end
section
namespace Go.AL
open Go Go.RowKit
variable {C:Cfg} {a b:Code} {Q:AQ} {ρ:Env} {L:AHeap}
end Go.AL
end
section
namespace Go.AL
open Go Go.RowKit
def aNilR (P:Program) (op:BinOp) (t:TypeId) (x y:AV):Option (Prop × AV) :=
 match x,y,tinfo P t with
 | .sl _ xs,.v (.slice none 0 0),some ⟨.slice _,_,_,_⟩=>match op with
  | .eql=>some (xs ≠ [],ab false)
  | .neq=>some (xs ≠ [],ab true)
  | _=>none
 | _,_,_=>none
def avalR (P:Program) (ρ:Env) (L:AHeap) (op:Op):Option (Prop × AV) :=
 match aval P ρ L op with
 | some z=>some z
 | none=>match op with
  | .binOp b t x y _=>w2 (ev ρ x) (ev ρ y) (aNilR P b t)
  | _=>none
theorem avalR_congr {P:Program} {ρ ρ':Env} {L:AHeap} {op:Op} (h:∀x ∈ op.operands,ev ρ' x=ev ρ x):avalR P ρ' L op=avalR P ρ L op:=by
 unfold avalR
 rw[aval_congr h]
 cases op with
 | binOp b t x y t' =>
  have e1:=h x (by simp [Op.operands])
  have e2:=h y (by simp [Op.operands])
  simp only[e1,e2]
 | _=>rfl
theorem aNilR_sound {C:Cfg} {o:Oper} {ρ:Env} {L:AHeap} {op:BinOp} {t t':TypeId} {x y:Operand} (ho:o.op = .binOp op t x y t') (hd:dstOk C o) {c:Prop} {z:AV} (h:w2 (ev ρ x) (ev ρ y) (aNilR C.P op t)=some (c,z)) (hc:c) :
  AOp C o ρ L fun ρ' L'=>ρ'=put ρ o.dst z∧L'=L:=by
 obtain⟨h1,h2,c',h3,h4⟩:=w2_inv h hc
 unfold aNilR at h3
 split at h3
 ·rename_i k xs e _ _ _ hx hy hti
  have hu:=tinfo_slice hti
  have main:∀(f:Bool→Bool),((op = .eql∧f=id)∨(op = .neq∧f=not))→xs ≠ []→z=ab (f false)→AOp C o ρ L fun ρ' L'=>ρ'=put ρ o.dst z∧L'=L:=fun f hf hne hz =>
   AOp.of_run (fun c e=>by rw[ho] at e;cases e) fun w0 M A0 a w A ds hs=>by
    have rx:=fo_ok (hs.ev x) h1;rw[hx] at rx
    have ry:=fo_ok (hs.ev y) h2;rw[hy] at ry
    have ry:=ry.inv_v
    have hval:∃a0 n m,a.eval x = .slice a0 n m∧a0.isNone=false:=by
     generalize a.eval x=u at rx
     cases rx with
     | sl0 _ a0 cap hc=>exact absurd rfl hne
     | sl _ _ b off cap=>exact⟨_,_,_,rfl,rfl⟩
    obtain⟨a0,n,m,e,hne⟩:=hval
    refine⟨_,w,?_,.inl ⟨.bool (f a0.isNone),rfl,_,_,⟨by rw[hz],rfl⟩,st_iff.2 ⟨A,ds,hs.put hd (by rw[hne];exact .v _)⟩⟩⟩
    unfold execOp
    rw[ho]
    rcases hf with ⟨rfl,rfl⟩|⟨rfl,rfl⟩
    ·simp [e,ry,eqGuard_slice,binOp,equal_slice_nil hu]
    ·simp [e,ry,eqGuard_slice,binOp,equal_slice_nil hu]
  split at h3
  ·cases h3;exact main id (.inl ⟨rfl,rfl⟩) h4 rfl
  ·cases h3;exact main not (.inr ⟨rfl,rfl⟩) h4 rfl
  ·cases h3
 ·cases h3
theorem avalR_sound {C:Cfg} {o:Oper} {ρ:Env} {L:AHeap} {c:Prop} {x:AV} (hv:avalR C.P ρ L o.op=some (c,x)) (hc:c) (hd:dstOk C o) (hdef:∀c,o.op ≠ .defer c):AOp C o ρ L fun ρ' L'=>ρ'=put ρ o.dst x∧L'=L:=by
 unfold avalR at hv
 split at hv
 ·rename_i z hz
  cases hv
  exact aval_sound hz hc hd hdef
 ·split at hv
  ·rename_i ho
   exact aNilR_sound ho hd hv hc
  ·cases hv
def YldL (C:Cfg) (ops:Array Oper) (i:Nat) (o:Oper) (x:AV) (ρ:Env) (L:AHeap):Prop :=
 ∀ρ',(∀t ∈ o.looksAt ops,get ρ' t=get ρ t)→GOp C ops i ρ' L fun ρ2 L2=>ρ2=put ρ' o.dst x∧L2=L
def aqL (C:Cfg) (all:List Oper) (o:Oper) (ρ:Env) (L:AHeap) (K:Env→Prop):Prop :=
 match o.guard with
 | none=>match avalR C.P ρ L o.op with
  | some (c,x)=>c∧K (put ρ o.dst x)
  | none=>match o.op with
   | .call c=>match c.callee with
    | .value g=>GCall C.P True ((fo (ev ρ g)).1∧fos (c.args.toList.map (ev ρ))) (fo (ev ρ g)).2 (c.args.toList.map fun x=>(fo (ev ρ x)).2) L (putQ K ρ o.dst)
    | _=>False
   | _=>False
 | some (j,want)=>match gval all ρ j want with
  | some b=>match avalR C.P ρ L o.op with
   | some (c,x)=>(b=want→c)∧K (put ρ o.dst (.cond (b == want) x))
   | none=>match o.op with
    | .call c=>match c.callee with
     | .value g=>GCall C.P (b=want) ((fo (ev ρ g)).1∧fos (c.args.toList.map (ev ρ))) (fo (ev ρ g)).2 (c.args.toList.map fun x=>(fo (ev ρ x)).2) L (putQC K ρ o.dst (b == want))
     | _=>b ≠ want∧K (put ρ o.dst (.cond (b == want) .any))
    | _=>b ≠ want∧K (put ρ o.dst (.cond (b == want) .any))
  | none=>False
def aqLRun (C:Cfg) (all:List Oper) (L:AHeap):List Nat→(Env→Prop)→Env→Prop
 | [],K,ρ=>K ρ
 | i :: r,K,ρ=>match all[i]? with
  | some o=>aqL C all o ρ L (aqLRun C all L r K)
  | none=>False
section
variable {C:Cfg} {ops:Array Oper} {L:AHeap}
theorem aqL_yields {i:Nat} {o:Oper} {ρ:Env} {K:Env→Prop} (hi:ops[i]?=some o) (hok:operOk C.N o=true) (h:aqL C ops.toList o ρ L K):∃x,YldL C ops i o x ρ L∧K (put ρ o.dst x):=by
 have hd:=operOk_dst hok
 have hdef:=operOk_def hok
 unfold aqL at h
 split at h
 ·rename_i hg
  split at h
  ·rename_i c x hv
   exact⟨x,fun ρ' hag=>AOp.gop hi hg (avalR_sound (by rw[avalR_congr (agree_ops hag)];exact hv) h.1 hd hdef),h.2⟩
  ·split at h
   ·rename_i cl ho
    split at h
    ·rename_i g h0
     obtain⟨r,h1,h2⟩:=h
     refine⟨r,fun ρ' hag=>AOp.gop hi hg ?_,h2⟩
     have hag':=agree_ops hag
     rw[ho] at hag'
     obtain⟨e1,e2,e3⟩:=call_congr h0 hag'
     exact call_sound ho h0 hd (by rw[e1,e2,e3];exact⟨(h1 trivial).1.1,(h1 trivial).1.2,(h1 trivial).2⟩)
    ·exact h.elim
   ·exact h.elim
 ·rename_i j want hg
  split at h
  ·rename_i b hv
   split at h
   ·rename_i c x ha
    refine⟨_,fun ρ' hag=>GOp.of_cond hi hg (by rw[agree_guard hag hg];exact hv) hd fun hb=>avalR_sound (by rw[avalR_congr (agree_ops hag)];exact ha) (h.1 hb) hd hdef,h.2⟩
   ·split at h
    ·rename_i cl ho
     split at h
     ·rename_i g h0
      obtain⟨r,h1,h2⟩:=h
      refine⟨_,fun ρ' hag=>GOp.of_cond hi hg (by rw[agree_guard hag hg];exact hv) hd fun hb => ?_,h2⟩
      have hag':=agree_ops hag
      rw[ho] at hag'
      obtain⟨e1,e2,e3⟩:=call_congr h0 hag'
      exact call_sound ho h0 hd (by rw[e1,e2,e3];exact⟨(h1 hb).1.1,(h1 hb).1.2,(h1 hb).2⟩)
     ·refine⟨_,fun ρ' hag=>GOp.of_cond hi hg (by rw[agree_guard hag hg];exact hv) hd fun hb=>absurd hb h.1,h.2⟩
    ·refine⟨_,fun ρ' hag=>GOp.of_cond hi hg (by rw[agree_guard hag hg];exact hv) hd fun hb=>absurd hb h.1,h.2⟩
  ·exact h.elim
def QFactL (C:Cfg) (ops:Array Oper) (ρ:Env) (L:AHeap) (q:Nat):Prop:=∃o x,ops[q]?=some o∧YldL C ops q o x ρ L∧∀d,o.dst=some d→get ρ d=x
theorem YldL.of_agree {i:Nat} {o:Oper} {x:AV} {ρ ρ':Env} (h:YldL C ops i o x ρ L) (he:∀t ∈ o.looksAt ops,get ρ' t=get ρ t):YldL C ops i o x ρ' L :=
 fun ρ2 hag=>h ρ2 fun t ht=>(hag t ht).trans (he t ht)
theorem aqLRun_facts {qs0:List Nat} (hm:mixOk ops qs0=true) (hok:ops.toList.all (operOk C.N)=true):∀(qs:List Nat) (ρ:Env) (K:Env→Prop),(∀q ∈ qs,q ∈ qs0)→ascend qs=true→aqLRun C ops.toList L qs K ρ →
  ∃ρq,K ρq∧(∀q ∈ qs,QFactL C ops ρq L q)∧∀s,(∀q ∈ qs,dstOf ops q ≠ some s)→get ρq s=get ρ s
 | [],ρ,K,_,_,h=>⟨ρ,h,fun q hq=>(by cases hq),fun _ _=>rfl⟩
 | i :: r,ρ,K,hsub,hasc,h=>by
  obtain⟨hlt,hasc'⟩:=ascend_cons hasc
  simp only[aqLRun] at h
  cases ho:ops.toList[i]? with
  | none=>rw[ho] at h;exact h.elim
  | some o =>
   rw[ho] at h
   have ho':ops[i]?=some o:=by simpa using ho
   obtain⟨x,hy,hK⟩:=aqL_yields ho' (List.all_eq_true.1 hok o (List.mem_of_getElem? ho)) h
   obtain⟨ρq,h1,h2,h3⟩:=aqLRun_facts hm hok r _ K (fun q hq=>hsub q (List.mem_cons_of_mem _ hq)) hasc' hK
   obtain⟨p1,p2,_⟩:=mix_at hm ho'
   have hself:∀d,o.dst=some d→d ∉ o.looksAt ops:=fun d hd hm'=>by
    have:=(p2 i (hsub i List.mem_cons_self) d (by simp [dstOf,ho',hd])).1 hm'
    exact absurd (p1 i this) (Nat.lt_irrefl i)
   refine⟨ρq,h1,fun q hq => ?_,fun s hs => ?_⟩
   ·rcases List.mem_cons.1 hq with rfl|hq
    ·refine⟨o,x,ho',hy.of_agree fun t ht => ?_,fun d hd => ?_⟩
     ·rw[h3 t fun q' hq' he => ?_,get_put,if_neg fun he=>hself t he ht]
      have:=(p2 q' (hsub q' (List.mem_cons_of_mem _ hq')) t he).1 ht
      have:=p1 q' this;have:=hlt q' hq';omega
     ·rw[h3 d fun q' hq' he => ?_,get_put,if_pos hd]
      exact(p2 q' (hsub q' (List.mem_cons_of_mem _ hq')) d he).2 (by have:=hlt q' hq';omega) hd
    ·exact h2 q hq
   ·rw[h3 s fun q hq=>hs q (List.mem_cons_of_mem _ hq),get_put,if_neg]
    have:=hs i List.mem_cons_self
    simpa [dstOf,ho'] using this
theorem read_sound {qs:List Nat} (hm:mixOk ops qs=true) (hall:∀i,i<ops.size→i ∈ qs) {K:ARes} {n:Nat} {w0:World} {M A0:Foot} {Q:Exit→Act→World→Prop} (hQ:∀a w,post w0 M A0 C.N K a w→Q .normal a w) {ρT:Env} (hK:K ρT L) :
  ∀(f:Nat) (listed:Array Bool) (a:Act) (w:World),listed.size=ops.size →
   (∀l:List Nat,l.Nodup→(∀i ∈ l,listed.getD i true=false)→l.length≤f) →
   (∀q ∈ qs,listed.getD q true=false→QFactL C ops ρT L q)→St w0 M A0 C.N (mask ops qs listed ρT) L a w →
   wpAnyIn (Fw C.r) n C.P .any ops Q f listed a w:=by
 have fin:∀(listed:Array Bool) (a:Act) (w:World),listed.size=ops.size→St w0 M A0 C.N (mask ops qs listed ρT) L a w→Region.ready .any ops listed=[]→Q .normal a w:=by
  intro listed a w hsz hs hr
  have all:∀i,listed.getD i true=true:=by
   intro i
   induction i using Nat.strongRecOn with
   | _ i ih =>
    cases hi:listed.getD i true with
    | true=>rfl
    | false =>
     exfalso
     have hlt:i<ops.size:=by
      rw[← hsz]
      by_cases h:i<listed.size
      ·exact h
      ·simp [Array.getD,h] at hi
     have ho:ops[i]?=some ops[i]:=Array.getElem?_eq_getElem hlt
     have:i ∈ Region.ready .any ops listed:=mem_ready.2 ⟨hi,_,ho,fun e he hb=>by
      have hp:=(mix_at hm ho).1 e.on (List.mem_map.2 ⟨e,List.mem_filter.2 ⟨by simpa using he,hb⟩,rfl⟩)
      exact getD_ft (by omega) (ih _ hp)⟩
     rw[hr] at this;cases this
  refine hQ a w ⟨ρT,L,hK,st_forget hs fun i => .inr ?_⟩
  rw[mask_out fun q _ hl=>by rw[all q] at hl;cases hl]
 intro f
 induction f with
 | zero =>
  intro listed a w hsz hcnt hfact hs
  have hr:Region.ready .any ops listed=[]:=by
   cases hh:Region.ready .any ops listed with
   | nil=>rfl
   | cons j r =>
    have hj:j ∈ Region.ready .any ops listed:=by rw[hh];exact List.mem_cons_self
    have:=hcnt [j] (by simp) (fun i hi=>by simp at hi;subst hi;exact(mem_ready.1 hj).1)
    simp at this
  exact⟨hr,fin listed a w hsz hs hr⟩
 | succ f ih =>
  intro listed a w hsz hcnt hfact hs
  refine⟨fin listed a w hsz hs,fun i hi => ?_⟩
  obtain⟨hun,o,ho,hpre⟩:=mem_ready.1 hi
  have hlt:i<ops.size:=(Array.getElem?_eq_some_iff.1 ho).1
  obtain⟨m1,m2,m3⟩:=mix_at hm ho
  have hlooks:∀t ∈ o.looksAt ops,get (mask ops qs listed ρT) t=get ρT t:=fun t ht=>mask_out fun q hq hl hd=>by
   have hp:=(m2 q hq t hd).1 ht
   obtain⟨e,he,rfl⟩:=List.mem_map.1 hp
   obtain⟨he1,he2⟩:=List.mem_filter.1 he
   have:=getD_tf (hpre e (by simpa using he1) he2)
   rw[hl] at this;cases this
  have hcnt':∀l:List Nat,l.Nodup→(∀j ∈ l,(listed.setIfInBounds i true).getD j true=false)→l.length≤f:=fun l hn hl=>by
   have hil:i ∉ l:=fun h=>by
    have:=hl i h
    simp [Array.getD,show i<listed.size by omega] at this
   have:=hcnt (i :: l) (List.nodup_cons.2 ⟨hil,hn⟩) (fun j hj=>by
    rcases List.mem_cons.1 hj with rfl|hj
    ·exact hun
    ·have:=hl j hj
     have hne:i ≠ j:=fun e=>hil (e ▸ hj)
     rwa [getD_set_ne true hne] at this)
   simp at this;omega
  have hset:∀j,j ≠ i→(listed.setIfInBounds i true).getD j true=listed.getD j true:=fun j hj=>getD_set_ne true (Ne.symm hj)
  have hq:=hall i hlt
  obtain⟨o',x,ho',hy,hgx⟩:=hfact i hq hun
  rw[ho] at ho';cases ho'
  refine wpOpIn_mono ?_ (hy _ hlooks n w0 M A0 a w Q hs)
  rintro a' w' ⟨ρ2,L2,⟨rfl,rfl⟩,hs2⟩
  refine ih _ a' w' (by simpa using hsz) hcnt' (fun q hq' hl=>hfact q hq' (by
   by_cases e:q=i
   ·subst e;exact hun
   ·rwa [hset q e] at hl)) (st_forget hs2 fun s => ?_)
  rcases mask_or (ops:=ops) qs (listed.setIfInBounds i true) ρT s with ⟨h1,_⟩|⟨h1,h2⟩
  ·exact .inl h1
  ·refine .inr ?_
   rw[h1,get_put]
   by_cases hd:o.dst=some s
   ·rw[if_pos hd];exact hgx s hd
   ·rw[if_neg hd,mask_out fun q hq' hl hds => ?_]
    by_cases e:q=i
    ·subst e;exact hd (by simpa [dstOf,ho] using hds)
    ·exact h2 q hq' (by rw[hset q e];exact hl) hds
end
def readAll (ops:Array Oper) (qs:List Nat):Bool:=mixOk ops qs && (List.range ops.size).all fun i=>qs.contains i
def readK (K:ARes) (L:AHeap) (ρ:Env):Prop:=K ρ L
theorem AWp.read {C:Cfg} {id:Nat} {ops:Array Oper} {Q:AQ} {ρ:Env} {L:AHeap} (hmx:C.P.follows .mixedOrders=true) (qs:List Nat) (hT:readAll ops qs=true) (h:aqLRun C ops.toList L qs (readK (Q .normal) L) ρ) :
  AWp C (.region id ops true) Q ρ L:=fun hok n w0 M A0 a w hs=>by
 simp only[readAll,Bool.and_eq_true,List.all_eq_true,List.contains_eq_mem,decide_eq_true_eq] at hT
 obtain⟨hm,hal⟩:=hT
 have hasc:=mix_asc hm
 obtain⟨ρq,hK,hF,hother⟩:=aqLRun_facts hm hok qs ρ _ (fun _ h=>h) hasc.1 h
 refine wpIn_region_any hmx ?_
 obtain⟨A,ds,hs'⟩:=st_iff.1 hs
 refine read_sound hm (fun i hi=>hal i (List.mem_range.2 hi)) (K:=Q .normal) (fun a w ⟨ρ',L',h1,h2⟩=>⟨ρ',L',h1,h2⟩) hK ops.size _ a _ (by simp) ?_ (fun q hq _=>hF q hq) (st_forget (st_iff.2 ⟨A,ds,hs'.drew⟩) fun s => ?_)
 ·intro l hn hl
  have:=List.Nodup.length_le_of_subset hn (l₂:=List.range ops.size) (fun i hi=>by
   have:=hl i hi
   rw[List.mem_range]
   by_cases h:i<ops.size
   ·exact h
   ·simp [Array.getD,h] at this)
  simpa using this
 ·rcases mask_or (ops:=ops) qs (Array.replicate ops.size false) ρq s with ⟨h1,_⟩|⟨h1,h2⟩
  ·exact .inl h1
  ·refine .inr ?_
   rw[h1]
   exact hother s fun q hq hd=>h2 q hq (by simp [Array.getD,hasc.2 q hq]) hd
theorem aqLRun_nil (C:Cfg) (all:List Oper) (L:AHeap) (K:Env→Prop) (ρ:Env):aqLRun C all L [] K ρ=K ρ:=rfl
theorem aqLRun_cons (C:Cfg) (all:List Oper) (L:AHeap) (i:Nat) (r:List Nat) (K:Env→Prop) (ρ:Env):aqLRun C all L (i :: r) K ρ=(match all[i]? with|some o=>aqL C all o ρ L (aqLRun C all L r K)|none=>False):=rfl
attribute [go_sem] aqLRun_nil aqLRun_cons aqL readK avalR aNilR
end Go.AL
end
section
namespace Go.AL
open Go Go.RowKit
set_option maxRecDepth 4000
theorem cntOk_get {ps:List Pr} {c:List Int} {p:Nat} (hp:p<ps.length) (hc:p<c.length):cntOk ps c p=(decide (0≤c[p]) && decide (c[p]≤ps[p].evs.length)):=by
 simp only[cntOk,List.getElem?_eq_getElem hp,List.getElem?_eq_getElem hc]
theorem procF_of_valid {ps:List Pr} (h:validF ps=true) {p:Nat} (hp:p<ps.length):procF ps p=0:=by
 have h0:=(valid_parts h).1
 unfold procFirst at h0
 rw[Option.map_eq_none_iff,List.find?_eq_none] at h0
 simpa using h0 p (List.mem_range.2 hp)
section
variable {ps:List Pr} {c:List Int}
end
def aView (ps:List Pr) (c:List Int) (V:List (List Int)):AV:=.agg [aPrs ps,aInts c,aRows V]
theorem view_variable1 (v:ByteArray × Int) (k n p q:Int) (s:ByteArray) (l:List Pd):PC Proofs.Tryz.prog 104 [aVar v,.rp 6 [aPd (.mk k n p q s l)] 0 0] (ab (nmB s v)):=by
 generalize hb:nmB s v=b
 refine PC.enter 9 [.tmp 3] [2] Proofs.Tryz.func104 rfl rfl rfl rfl rfl (by simp) (AWp.of ?_);simp only[go_sem]
 refine Wk ?_
 refine ret_eq ?_;simp only[go_sem]
 rw[← hb];rfl
theorem view_variable (ps:List Pr) (hs:Sm ps) (c:List Int) (V:List (List Int)) (k n:Int) (p:Nat) (q:Int) (s:ByteArray) (l:List Pd) (hp:p<ps.length) (hkn:knownB ps p s=true)
  (hV:p<V.length) (hr:V[p].length=ps[p].vars.length) :
  PC Proofs.Tryz.prog 62 [aView ps c V,aPd (.mk k n p q s l)] (ai (V[p].getD (varIx ps[p].vars s).toNat 0)):=by
 have hm:=List.getElem_mem hp
 have hk:=known_get hp hkn
 obtain⟨i,hi,hil⟩:=known_ix hk
 have hfi:PC Proofs.Tryz.prog 43 [aVars ps[p].vars,.clo 104 [.rp 6 [aPd (.mk k n p q s l)] 0 0]] (ai (varIx ps[p].vars s)) :=
  vars_indexFunc ps[p].vars (hs.vars _ hm) (.clo 104 [.rp 6 [aPd (.mk k n p q s l)] 0 0]) rfl (nmB s) fun v _=>(view_variable1 v k n p q s l).clo
 rw[hi] at hfi ⊢
 rw[Int.toNat_natCast]
 have hgp:=getD_map (f:=aPr) hp
 have hgV:=getD_map (f:=aInts) hV
 have hgr:=getD_map (f:=ai) (l:=V[p]) (k:=i) (by omega)
 have hres:V[p].getD i 0=V[p][i]'(by omega):=by rw[List.getD_eq_getElem?_getD,List.getElem?_eq_getElem (by omega)];rfl
 rw[hres]
 generalize V[p][i]'(by omega)=w at *
 have hrl:i<V[p].length:=by omega
 unfold aView
 simp only[aPd_mk] at *
 refine PC.enter 25 [.tmp 4] [2,3] Proofs.Tryz.func62 rfl rfl rfl rfl rfl (by simp) (AWp.of ?_);simp only[go_sem]
 refine W1 hgp ?_
 refine Sd ?_
 refine(hfi).val.use ?_;simp only[go_sem,hgp,hgV,hgr]
 refine W2 hgV hgr ?_
 refine ret_eq ?_;simp only[go_sem]
def leafOk (ps:List Pr) (c:List Int) (V:List (List Int)) (o:Obs):Pd→Prop
 | .mk k n p q s l=>(k=2→PC Proofs.Tryz.prog 62 [aView ps c V,aPd (.mk k n p q s l)] (ai (o.var p s)))∧(k=3→0≤p∧c[p.toNat]?=some (o.cnt p)) ∧
  (k=4→PC Proofs.Tryz.prog 63 [aView ps c V,aPd (.mk k n p q s l)] (ai (o.chn p q)))
theorem bd_child {ps:List Pr} {k n p q:Int} {s:ByteArray} {l:List Pd} (h:(intF ps (.mk k n p q s l)).2.2=true) (hl:l.length≤2):∀x ∈ l,(intF ps x).2.2=true:=by
 rw[intF_mk] at h
 match l,hl with
 | [],_=>intro x hx;cases hx
 | [a],_ =>
  simp only[List.map_cons,List.map_nil,bdN] at h
  split at h
  ·rename_i e;intro x hx;simp at hx;subst hx;exact e
  ·cases h
 | [a,b],_ =>
  simp only[List.map_cons,List.map_nil,bdN] at h
  split at h
  ·rename_i e;intro x hx;simp at hx;rcases hx with rfl|rfl;exact e.1;exact e.2
  ·cases h
theorem view_number (ps:List Pr) (c:List Int) (V:List (List Int)) (o:Obs) (hcl:c.length≤1000000) (t:Pd):szF t≤1000000→okT ps t=true→t.kind≤8→(intF ps t).2.2=true→AllP (obsB ps o) t→AllP (leafOk ps c V o) t →
  PC Proofs.Tryz.prog 30 [aView ps c V,aPd t] (ai (valF o t)):=by
 induction t using Pd.ind with
 | _ k n p q s l ih =>
 intro hz ht hk hi hob hlf
 have hbnd:=valF_bounds ps o _ ht hk hob hi
 obtain⟨o1,o2,o3,o4⟩:=okT_sub ht
 obtain⟨hpl,_⟩:=loc_len o1
 simp only[Pd.kind] at hk
 have hch:=child_le ht (show k≤12 by omega)
 have hsz:szF (.mk k n p q s l)=szL l+1:=by rw[szF]
 have hsp:=valF_mk o k n p q s l
 have hci:=bd_child hi
 obtain⟨⟨lf2,lf3,lf4⟩,hls⟩:=AllP_sub hlf
 obtain⟨_,hos⟩:=AllP_sub hob
 generalize valF o (.mk k n p q s l)=R at *
 have hb : -1125899906842624≤R∧R≤1125899906842624:=by omega
 clear hbnd hi
 unfold aView at *
 have hcb:=fun (x:Pd) (hx:x ∈ l) (h:l.length≤2)=>valF_bounds ps o x (hch x hx).1 (hch x hx).2 (hos x hx) (hci h x hx)
 rcases parts_cases k with ⟨e,hc⟩|⟨e,hc⟩|⟨e,hc⟩|e
 ·obtain rfl:=len0 (l:=l) (by omega)
  simp only[List.map_nil,valN,aPd_mk] at *
  have hk4:k=1∨k=2∨k=3∨k=4:=by omega
  rcases hk4 with h|h|h|h
  ·have hsp:R=n:=by rw[hsp,if_pos h]
   refine PC.enter 81 [.tmp 4] [2,3] Proofs.Tryz.func30 rfl rfl rfl rfl rfl (by simp) (AWp.of ?_);simp only[go_sem]
   repeat(first|((with_reducible refine AWp.ofC ?_ ?_);exact rfl;simp only[go_sem,(eq_true h)])|((with_reducible refine an ?_ ?_);exact Au))
   refine ret_eq ?_;simp only[go_sem]
   rw[hsp]
  ·have lf:=lf2 h
   have h1:¬k=1:=by omega
   rw[if_neg h1,if_pos h] at hsp
   refine PC.enter 81 [.tmp 4] [2,3] Proofs.Tryz.func30 rfl rfl rfl rfl rfl (by simp) (AWp.of ?_);simp only[go_sem]
   repeat(first|((with_reducible refine AWp.ofC ?_ ?_);exact rfl;simp only[go_sem,(eq_true h),h1])|((with_reducible refine an ?_ ?_);exact Au))
   refine Sd ?_
   refine(lf).val.use ?_;simp only[go_sem]
   refine Wk ?_
   refine ret_eq ?_;simp only[go_sem]
   rw[hsp]
  ·obtain⟨p0,pc⟩:=lf3 h
   obtain⟨hpc,hpe⟩:=List.getElem?_eq_some_iff.1 pc
   have hg:=getD_map (f:=ai) hpc
   have h1:¬k=1:=by omega
   have h2:¬k=2:=by omega
   rw[if_neg h1,if_neg h2,if_pos h] at hsp
   rw[hpe] at hg
   refine PC.enter 81 [.tmp 4] [2,3] Proofs.Tryz.func30 rfl rfl rfl rfl rfl (by simp) (AWp.of ?_);simp only[go_sem]
   repeat(first|((with_reducible refine AWp.ofC ?_ ?_);exact rfl;simp only[go_sem,(eq_true h),h1,h2,hg])|((with_reducible refine an ?_ ?_);exact Au))
   refine ret_eq ?_;simp only[go_sem]
   rw[hsp]
  ·have lf:=lf4 h
   have h1:¬k=1:=by omega
   have h2:¬k=2:=by omega
   have h3:¬k=3:=by omega
   rw[if_neg h1,if_neg h2,if_neg h3] at hsp
   refine PC.enter 81 [.tmp 4] [2,3] Proofs.Tryz.func30 rfl rfl rfl rfl rfl (by simp) (AWp.of ?_);simp only[go_sem]
   repeat(first|((with_reducible refine AWp.ofC ?_ ?_);exact rfl;simp only[go_sem,(eq_true h),h1,h2,h3])|((with_reducible refine an ?_ ?_);exact Au))
   refine Sd ?_
   refine(lf).val.use ?_;simp only[go_sem]
   refine Wk ?_
   refine ret_eq ?_;simp only[go_sem]
   rw[hsp]
 ·obtain⟨a,rfl⟩:=len1 (l:=l) (by omega)
  have h5:k=5:=by omega
  have h1:¬k=1:=by omega
  have h2:¬k=2:=by omega
  have h3:¬k=3:=by omega
  have h4:¬k=4:=by omega
  obtain⟨c1,c2⟩:=hch a (by simp)
  have hza:=szL_mem (l:=[a]) (x:=a) (by simp)
  have hca:=ih a (by simp) (by omega) c1 c2 (hci (by simp) a (by simp)) (hos a (by simp)) (hls a (by simp))
  have hcb:=hcb a (by simp) (by simp)
  simp only[List.map_cons,List.map_nil,valN] at hsp
  generalize valF o a=A at *
  obtain⟨ka,na,pa,qa,sa,la⟩:=a
  simp only[aPd_mk,List.map_cons,List.map_nil] at *
  refine PC.enter 81 [.tmp 4] [2,3] Proofs.Tryz.func30 rfl rfl rfl rfl rfl (by simp) (AWp.of ?_);simp only[go_sem]
  repeat(first|((with_reducible refine AWp.ofC ?_ ?_);exact rfl;simp only[go_sem,(eq_true h5),h1,h2,h3,h4])|((with_reducible refine an ?_ ?_);exact Au))
  repeat(first|(with_reducible refine AWp.seq ?_)|(with_reducible refine AWp.block ?_))
  refine AWp.mix mixed [0,1,2,3,4,5,6,7] .done (by kernel_rfl) ?_;simp only[go_sem]
  refine Sd ?_
  refine Gc hca ?_
  refine Sd ?_
  refine Wk ?_
  refine ret_eq ?_;simp only[go_sem]
  rw[hsp]
 ·obtain⟨a,b,rfl⟩:=len2 (l:=l) (by omega)
  have h1:¬k=1:=by omega
  have h2:¬k=2:=by omega
  have h3:¬k=3:=by omega
  have h4:¬k=4:=by omega
  have h5:¬k=5:=by omega
  obtain⟨c1,c2⟩:=hch a (by simp)
  obtain⟨c3,c4⟩:=hch b (by simp)
  have hza:=szL_mem (l:=[a,b]) (x:=a) (by simp)
  have hzb:=szL_mem (l:=[a,b]) (x:=b) (by simp)
  have hca:=ih a (by simp) (by omega) c1 c2 (hci (by simp) a (by simp)) (hos a (by simp)) (hls a (by simp))
  have hcc:=ih b (by simp) (by omega) c3 c4 (hci (by simp) b (by simp)) (hos b (by simp)) (hls b (by simp))
  have hcba:=hcb a (by simp) (by simp)
  have hcbb:=hcb b (by simp) (by simp)
  simp only[List.map_cons,List.map_nil,valN] at hsp
  have hmw:=fun h=>mulW_eq (a:=valF o a) (b:=valF o b) h
  generalize valF o a=A at *
  generalize valF o b=B at *
  obtain⟨ka,na,pa,qa,sa,la⟩:=a
  obtain⟨kb,nb,pb,qb,sb,lb⟩:=b
  simp only[aPd_mk,List.map_cons,List.map_nil] at *
  refine PC.enter 81 [.tmp 4] [2,3] Proofs.Tryz.func30 rfl rfl rfl rfl rfl (by simp) (AWp.of ?_);simp only[go_sem]
  by_cases h6:k=6
  ·rw[if_pos h6] at hsp
   repeat(first|((with_reducible refine AWp.ofC ?_ ?_);exact rfl;simp only[go_sem,(eq_true h6),h1,h2,h3,h4,h5])|((with_reducible refine an ?_ ?_);exact Au))
   repeat(first|(with_reducible refine AWp.seq ?_)|(with_reducible refine AWp.block ?_))
   refine AWp.mix mixed [0,1,2,3,4,5,6,7,8,9,10,11,12,13] .done (by kernel_rfl) ?_;simp only[go_sem]
   refine Sd ?_
   refine Gc hca ?_
   refine Sd ?_
   refine Gc hcc ?_
   refine Sd ?_
   refine Wk ?_
   refine ret_eq ?_;simp only[go_sem]
   rw[hsp]
  by_cases h7:k=7
  ·rw[if_neg h6,if_pos h7] at hsp
   repeat(first|((with_reducible refine AWp.ofC ?_ ?_);exact rfl;simp only[go_sem,(eq_true h7),h1,h2,h3,h4,h5,h6])|((with_reducible refine an ?_ ?_);exact Au))
   repeat(first|(with_reducible refine AWp.seq ?_)|(with_reducible refine AWp.block ?_))
   refine AWp.mix mixed [0,1,2,3,4,5,6,7,8,9,10,11,12,13] .done (by kernel_rfl) ?_;simp only[go_sem]
   refine Sd ?_
   refine Gc hca ?_
   refine Sd ?_
   refine Gc hcc ?_
   refine Sd ?_
   refine Wk ?_
   refine ret_eq ?_;simp only[go_sem]
   rw[hsp]
  rw[if_neg h6,if_neg h7] at hsp
  have hmw:=hmw (by rw[← hsp];unfold I64;omega)
  repeat(first|((with_reducible refine AWp.ofC ?_ ?_);exact rfl;simp only[go_sem,h1,h2,h3,h4,h5,h6,h7])|((with_reducible refine an ?_ ?_);exact Au))
  refine AWp.seq ?_
  repeat(first|(with_reducible refine AWp.seq ?_)|(with_reducible refine AWp.block ?_))
  refine AWp.mix mixed [0,1,2,3,4,5,6,7,8,9,10,11,12,13] .done (by kernel_rfl) ?_;simp only[go_sem]
  refine Sd ?_
  refine Gc hca ?_
  refine Sd ?_
  refine Gc hcc ?_
  refine Sd ?_
  refine W1 hmw ?_
  refine ret_eq ?_;simp only[go_sem]
  rw[hsp]
 ·omega
theorem fit_child {ps:List Pr} {k n p q:Int} {s:ByteArray} {l:List Pd} (h:fitB ps (.mk k n p q s l)=true) (hk:9≤k):∀x ∈ l,fitB ps x=true:=by
 rw[fitB_mk,if_neg (by omega),List.all_eq_true] at h;exact h
theorem fit_int {ps:List Pr} {x:Pd} (h:fitB ps x=true) (hk:x.kind≤8):(intF ps x).2.2=true:=by
 obtain⟨k,n,p,q,s,l⟩:=x
 simp only[Pd.kind] at hk
 rw[fitB_mk,if_pos hk] at h;exact h
theorem view_truth (ps:List Pr) (c:List Int) (V:List (List Int)) (o:Obs) (hcl:c.length≤1000000) (t:Pd):szF t≤1000000→okT ps t=true→9≤t.kind→fitB ps t=true→allB ntmB t=true→AllP (obsB ps o) t→AllP (leafOk ps c V o) t →
  PC Proofs.Tryz.prog 29 [aView ps c V,aPd t] (ab (truF o t)):=by
 induction t using Pd.ind with
 | _ k n p q s l ih =>
 intro hz ht hk hi htm hob hlf
 obtain⟨o1,o2,o3,o4⟩:=okT_sub ht
 obtain⟨hpl,_⟩:=loc_len o1
 simp only[Pd.kind] at hk
 obtain⟨ht1,ht2⟩:=allB_sub htm
 have hnt:¬(18≤k∧k≤21):=by unfold ntmB tempB at ht1;simp at ht1;omega
 have hsz:szF (.mk k n p q s l)=szL l+1:=by rw[szF]
 have hsp:=truF_mk o k n p q s l
 have hfc:=fit_child hi hk
 obtain⟨_,hls⟩:=AllP_sub hlf
 obtain⟨_,hos⟩:=AllP_sub hob
 generalize truF o (.mk k n p q s l)=R at *
 unfold truN at hsp
 by_cases h12:k≤12
 ·have hch:=child_le ht h12
  obtain⟨a,b,rfl⟩:=len2 (l:=l) (by rcases parts_cases k with ⟨e,hc⟩|⟨e,hc⟩|⟨e,hc⟩|e <;> omega)
  obtain⟨c1,c2⟩:=hch a (by simp)
  obtain⟨c3,c4⟩:=hch b (by simp)
  have hza:=szL_mem (l:=[a,b]) (x:=a) (by simp)
  have hzb:=szL_mem (l:=[a,b]) (x:=b) (by simp)
  have hca:=view_number ps c V o hcl a (by omega) c1 c2 (fit_int (hfc a (by simp)) c2) (hos a (by simp)) (hls a (by simp))
  have hcc:=view_number ps c V o hcl b (by omega) c3 c4 (fit_int (hfc b (by simp)) c4) (hos b (by simp)) (hls b (by simp))
  simp only[List.map_cons,List.map_nil,List.getD_cons_zero,List.getD_cons_succ] at hsp
  generalize valF o a=A at *
  generalize valF o b=B at *
  clear ih hlf hls hob hos htm ht2 hch hfc
  unfold aView at *
  obtain⟨ka,na,pa,qa,sa,la⟩:=a
  obtain⟨kb,nb,pb,qb,sb,lb⟩:=b
  simp only[aPd_mk,List.map_cons,List.map_nil] at *
  refine PC.enter 112 [.tmp 4] [2,3] Proofs.Tryz.func29 rfl rfl rfl rfl rfl (by simp) (AWp.of ?_);simp only[go_sem]
  by_cases h9:k=9
  ·rw[if_pos h9] at hsp
   repeat(first|((with_reducible refine AWp.ofC ?_ ?_);exact rfl;simp only[go_sem,(eq_true h9)])|((with_reducible refine an ?_ ?_);exact Au))
   repeat(first|(with_reducible refine AWp.seq ?_)|(with_reducible refine AWp.block ?_))
   refine AWp.mix mixed [0,1,2,3,4,5,6,7,8,9,10,11,12,13] .done (by kernel_rfl) ?_;simp only[go_sem]
   refine Sd ?_
   refine Gc hca ?_
   refine Sd ?_
   refine Gc hcc ?_
   refine Sd ?_
   refine Wk ?_
   refine ret_eq ?_;simp only[go_sem]
   rw[hsp]
  by_cases h10:k=10
  ·rw[if_neg h9,if_pos h10] at hsp
   repeat(first|((with_reducible refine AWp.ofC ?_ ?_);exact rfl;simp only[go_sem,(eq_true h10),h9])|((with_reducible refine an ?_ ?_);exact Au))
   repeat(first|(with_reducible refine AWp.seq ?_)|(with_reducible refine AWp.block ?_))
   refine AWp.mix mixed [0,1,2,3,4,5,6,7,8,9,10,11,12,13] .done (by kernel_rfl) ?_;simp only[go_sem]
   refine Sd ?_
   refine Gc hca ?_
   refine Sd ?_
   refine Gc hcc ?_
   refine Sd ?_
   refine Wk ?_
   refine ret_eq ?_;simp only[go_sem]
   rw[hsp]
  by_cases h11:k=11
  ·rw[if_neg h9,if_neg h10,if_pos h11] at hsp
   repeat(first|((with_reducible refine AWp.ofC ?_ ?_);exact rfl;simp only[go_sem,(eq_true h11),h9,h10])|((with_reducible refine an ?_ ?_);exact Au))
   repeat(first|(with_reducible refine AWp.seq ?_)|(with_reducible refine AWp.block ?_))
   refine AWp.mix mixed [0,1,2,3,4,5,6,7,8,9,10,11,12,13] .done (by kernel_rfl) ?_;simp only[go_sem]
   refine Sd ?_
   refine Gc hca ?_
   refine Sd ?_
   refine Gc hcc ?_
   refine Sd ?_
   refine Wk ?_
   refine ret_eq ?_;simp only[go_sem]
   rw[hsp]
  have h12:k=12:=by omega
  rw[if_neg h9,if_neg h10,if_neg h11,if_pos h12] at hsp
  repeat(first|((with_reducible refine AWp.ofC ?_ ?_);exact rfl;simp only[go_sem,(eq_true h12),h9,h10,h11])|((with_reducible refine an ?_ ?_);exact Au))
  repeat(first|(with_reducible refine AWp.seq ?_)|(with_reducible refine AWp.block ?_))
  refine AWp.mix mixed [0,1,2,3,4,5,6,7,8,9,10,11,12,13] .done (by kernel_rfl) ?_;simp only[go_sem]
  refine Sd ?_
  refine Gc hca ?_
  refine Sd ?_
  refine Gc hcc ?_
  refine Sd ?_
  refine Wk ?_
  refine ret_eq ?_;simp only[go_sem]
  rw[hsp]
 have h9:¬k=9:=by omega
 have h10:¬k=10:=by omega
 have h11:¬k=11:=by omega
 have h12:¬k=12:=by omega
 rw[if_neg h9,if_neg h10,if_neg h11,if_neg h12] at hsp
 have hch:=child_bool ht (by omega)
 rcases parts_cases k with ⟨e,hc⟩|⟨e,hc⟩|⟨e,hc⟩|e
 ·obtain rfl:=len0 (l:=l) (by omega)
  unfold aView
  simp only[aPd_mk,List.map_nil] at *
  refine PC.enter 112 [.tmp 4] [2,3] Proofs.Tryz.func29 rfl rfl rfl rfl rfl (by simp) (AWp.of ?_);simp only[go_sem]
  by_cases h13:k=13
  ·rw[if_pos h13] at hsp
   repeat(first|((with_reducible refine AWp.ofC ?_ ?_);exact rfl;simp only[go_sem,(eq_true h13),h9,h10,h11,h12])|((with_reducible refine an ?_ ?_);exact Au))
   refine ret_eq ?_;simp only[go_sem]
   rw[hsp]
  ·have h14:k=14:=by omega
   rw[if_neg h13,if_pos h14] at hsp
   repeat(first|((with_reducible refine AWp.ofC ?_ ?_);exact rfl;simp only[go_sem,(eq_true h14),h9,h10,h11,h12,h13])|((with_reducible refine an ?_ ?_);exact Au))
   refine ret_eq ?_;simp only[go_sem]
   rw[hsp]
 ·obtain⟨a,rfl⟩:=len1 (l:=l) (by omega)
  have h13:¬k=13:=by omega
  have h14:¬k=14:=by omega
  have h15:k=15:=by omega
  obtain⟨c1,c2⟩:=hch a (by simp)
  have hza:=szL_mem (l:=[a]) (x:=a) (by simp)
  have hca:=ih a (by simp) (by omega) c1 c2 (hfc a (by simp)) (ht2 a (by simp)) (hos a (by simp)) (hls a (by simp))
  simp only[List.map_cons,List.map_nil,List.getD_cons_zero,if_neg h13,if_neg h14,if_pos h15] at hsp
  generalize truF o a=A at *
  clear ih hlf hls hob hos htm ht2 hch hfc
  unfold aView at *
  obtain⟨ka,na,pa,qa,sa,la⟩:=a
  simp only[aPd_mk,List.map_cons,List.map_nil] at *
  refine PC.enter 112 [.tmp 4] [2,3] Proofs.Tryz.func29 rfl rfl rfl rfl rfl (by simp) (AWp.of ?_);simp only[go_sem]
  repeat(first|((with_reducible refine AWp.ofC ?_ ?_);exact rfl;simp only[go_sem,(eq_true h15),h9,h10,h11,h12,h13,h14])|((with_reducible refine an ?_ ?_);exact Au))
  repeat(first|(with_reducible refine AWp.seq ?_)|(with_reducible refine AWp.block ?_))
  refine AWp.mix mixed [0,1,2,3,4,5,6,7] .done (by kernel_rfl) ?_;simp only[go_sem]
  refine Sd ?_
  refine Gc hca ?_
  refine Sd ?_
  refine Wk ?_
  refine ret_eq ?_;simp only[go_sem]
  rw[hsp]
 ·obtain⟨a,b,rfl⟩:=len2 (l:=l) (by omega)
  have h13:¬k=13:=by omega
  have h14:¬k=14:=by omega
  have h15:¬k=15:=by omega
  obtain⟨c1,c2⟩:=hch a (by simp)
  obtain⟨c3,c4⟩:=hch b (by simp)
  have hza:=szL_mem (l:=[a,b]) (x:=a) (by simp)
  have hzb:=szL_mem (l:=[a,b]) (x:=b) (by simp)
  have hca:=ih a (by simp) (by omega) c1 c2 (hfc a (by simp)) (ht2 a (by simp)) (hos a (by simp)) (hls a (by simp))
  have hcc:=ih b (by simp) (by omega) c3 c4 (hfc b (by simp)) (ht2 b (by simp)) (hos b (by simp)) (hls b (by simp))
  simp only[List.map_cons,List.map_nil,List.getD_cons_zero,List.getD_cons_succ,if_neg h13,if_neg h14,if_neg h15] at hsp
  generalize truF o a=A at *
  generalize truF o b=B at *
  clear ih hlf hls hob hos htm ht2 hch hfc
  unfold aView at *
  obtain⟨ka,na,pa,qa,sa,la⟩:=a
  obtain⟨kb,nb,pb,qb,sb,lb⟩:=b
  simp only[aPd_mk,List.map_cons,List.map_nil] at *
  refine PC.enter 112 [.tmp 4] [2,3] Proofs.Tryz.func29 rfl rfl rfl rfl rfl (by simp) (AWp.of ?_);simp only[go_sem]
  by_cases h16:k=16
  ·rw[if_pos h16] at hsp
   repeat(first|((with_reducible refine AWp.ofC ?_ ?_);exact rfl;simp only[go_sem,(eq_true h16),h9,h10,h11,h12,h13,h14,h15])|((with_reducible refine an ?_ ?_);exact Au))
   repeat(first|(with_reducible refine AWp.seq ?_)|(with_reducible refine AWp.block ?_))
   refine AWp.mix mixed [0,1,2,3,4,5,6,7,8,9,10,11,12,13,14] .done (by kernel_rfl) ?_;simp only[go_sem]
   refine Sd ?_
   refine Gc hca ?_
   refine Sd ?_
   refine Gc hcc ?_
   refine Sd ?_
   refine Wk ?_
   refine ret_eq ?_;simp only[go_sem]
   rw[hsp]
  ·rw[if_neg h16] at hsp
   repeat(first|((with_reducible refine AWp.ofC ?_ ?_);exact rfl;simp only[go_sem,h9,h10,h11,h12,h13,h14,h15,h16])|((with_reducible refine an ?_ ?_);exact Au))
   refine AWp.seq ?_
   repeat(first|(with_reducible refine AWp.seq ?_)|(with_reducible refine AWp.block ?_))
   refine AWp.mix mixed [0,1,2,3,4,5,6,7,8,9,10,11,12,13,14] .done (by kernel_rfl) ?_;simp only[go_sem]
   refine Sd ?_
   refine Gc hca ?_
   refine Sd ?_
   refine Gc hcc ?_
   refine Sd ?_
   refine Wk ?_
   refine ret_eq ?_;simp only[go_sem]
   rw[hsp]
 ·omega
end Go.AL
end
