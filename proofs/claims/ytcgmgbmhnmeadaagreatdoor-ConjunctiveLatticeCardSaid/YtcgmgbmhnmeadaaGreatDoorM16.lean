/- Texts of this claim's proof: WV37, WMe, AlWrp, AlRng, WMf, WNd2, WOg, WFa, WFb, WGp, WGa. No condition. -/
import Derived.Test.YtcgmgbmhnmeadaaGreatDoorM15
import Derived.Test.YtcgmgbmhnmeadaaGreatDoorM6
import Derived.Test.YtcgmgbmhnmeadaaGreatDoorM3
import Derived.Test.YtcgmgbmhnmeadaaGreatDoorM11
import Derived.Test.YtcgmgbmhnmeadaaGreatDoorM10
section
namespace Go.AL
open Go Go.RowKit
set_option maxRecDepth 4000
theorem wh_truth {ps:List Pr} (hs:Sm ps) {t:Pd} (hz:szF t≤1000000) (hn:allB nchB t=true) (hE:whE ps t=0) {c:List Int} (hc:isF ps c=true) :
  PC Proofs.Tryz.prog 53 [aTr ps,aInts c] (.tup [.sl 1 ((valuesAt ps c).map aInts),ai 0])∧PC Proofs.Tryz.prog 54 [aView ps c (valuesAt ps c),aPd t] (ab (truF (cutO ps c fun _ _=>0) t)):=by
 obtain⟨g1,g3,g4,g5⟩:=whE_zero hE
 obtain⟨hv,g7,g8,g9⟩:=checkF_zero g1
 have g10:=g8
 unfold okT at g10
 simp only[Bool.and_eq_true] at g10
 have hcl:=(isF_iff.1 hc).1
 have h8:=(valid_len hv).2
 have hg:=(isF_given hv).2 hc
 obtain⟨l1,l2⟩:=cut_leaf ps hs c (fun _ _=>0) hg t g10.1.2 hn
 have h2:=variable_At ps hs c (by omega)
 unfold aAt at h2
 rw[hg,if_neg (by decide)] at h2
 exact⟨h2,view_truth ps c _ _ (by omega) t hz g8 g3 g9 g4 l2 l1⟩
theorem evaluate_all (ps:List Pr) (hs:Sm ps) (t:Pd) (hz:szF t≤1000000) (hn:allB nchB t=true) (hE:whE ps t=0) :
  PC Proofs.Tryz.prog 30 [aTr ps,aPd t] (.tup [aRows (cutsF ps),.sl 1 ((cutsF ps).map fun c=>ab (truF (cutO ps c fun _ _=>0) t)),ai 0]):=by
 obtain⟨g1,g3,g4,g5⟩:=whE_zero hE
 obtain⟨hv,h5⟩:=lst_zero.1 g5
 have h1:=predtype_Check ps hs t hz
 rw[g1] at h1
 have hgt:=(checkF_zero g1).2.1
 have hgy:typedB t=true:=by
  have:=(checkF_zero g1).2.2.1
  unfold okT at this;simp only[Bool.and_eq_true] at this;exact this.2
 have h2:=evaluate_typed t hz hgt hgy 2
 have hr:resF t.kind=2:=by unfold resF;split <;> omega
 rw[if_pos hr] at h2
 have h3:=predtype_Temporal t hz
 rw[hgt,g4] at h3
 have h4:=cuts_List ps hs
 have hL:lstF ps=cutsF ps:=by unfold lstF;rw[if_pos g5]
 unfold aLst at h4
 rw[hL,g5] at h4
 have hw:=fun c hc=>wh_truth hs hz hn hE (c:=c) ((mem_cutsF hv).1 hc)
 have hcl:∀c ∈ cutsF ps,c.length=ps.length:=fun c hc=>(isF_iff.1 ((mem_cutsF hv).1 hc)).1
 have haR:∀x:List (List Int),aRows x = .sl 1 (x.map aInts):=fun _=>rfl
 have hTr:aTr ps = .agg [aPrs ps]:=rfl
 clear hr g1 g3 g4 hgt hgy hL
 generalize cutsF ps=cs at *
 obtain⟨f,hf⟩:∃f:List Int→Bool,f=fun c=>truF (cutO ps c fun _ _=>0) t:=⟨_,rfl⟩
 have hfc:∀c,truF (cutO ps c fun _ _=>0) t=f c:=fun c=>by rw[hf]
 simp only[hfc] at hw ⊢
 clear hf hfc
 obtain⟨k,n,p,q,s,l⟩:=t
 unfold aView at hw
 simp only[aPd_mk] at *
 rw[haR] at *
 refine PC.enter 64 [.tmp 4,.tmp 5,.tmp 6] [2,3,59] Proofs.Tryz.func30 rfl rfl rfl rfl rfl (by simp) (AWp.of ?_);simp only[go_sem]
 refine Wk ?_
 refine Sd ?_
 refine(h1).val.use ?_;simp only[go_sem]
 refine Wk ?_
 refine Sd ?_
 refine(h2).val.use ?_;simp only[go_sem]
 refine Wk ?_
 refine Sd ?_
 refine(h3).val.use ?_;simp only[go_sem]
 refine Wk ?_
 refine Sd ?_
 refine(h4).val.use ?_;simp only[go_sem]
 refine Wk ?_
 refine AWp.range' cs.length [11] [2,3,9,37,38] (fun k vs L=>∃v,vs=[v]∧AppSt 4 1 ((cs.take k).map fun c=>ab (f c)) v L) (by omega) rfl rfl rfl ⟨anil,rfl,.nil⟩ ?_ ?_
 ·rintro k vs L hk - ⟨v,rfl,hA⟩
  have hg:=getD_map (f:=aInts) hk
  obtain⟨w1,w2⟩:=hw _ (List.getElem_mem hk)
  have hst:((cs.take (k+1)).map fun c=>ab (f c))=((cs.take k).map fun c=>ab (f c)) ++ [ab (f cs[k])]:=by
   rw[List.take_succ_eq_append_getElem hk,List.map_append];rfl
  rw[hst]
  have hfo:=hA.fo
  clear hst hw
  generalize hys:((cs.take k).map fun c=>ab (f c))=ys at *
  generalize f cs[k]=b at *
  generalize cs[k]=c at *
  generalize valuesAt ps c=V at *
  have hyl:ys.length=k:=by rw[← hys,List.length_map,List.length_take];omega
  clear hys
  rcases hA.inv with ⟨e1,rfl,rfl⟩|⟨b',cap,rfl,rfl⟩
  ·simp only[go_sem]
   refine W1 hg ?_
   refine Sd ?_
   refine(w1).val.use ?_;simp only[go_sem]
   refine Wk ?_
   refine Sd ?_
   refine(w2).val.use ?_;simp only[go_sem]
   refine Wk ?_
   intro b' cap' g8
   refine Wk ?_
   exact⟨_,List.Sublist.refl _,_,rfl,by rw[e1];exact .row _ _ _⟩
  ·simp only[go_sem]
   refine W1 hg ?_
   refine Sd ?_
   refine(w1).val.use ?_;simp only[go_sem]
   refine Wk ?_
   refine Sd ?_
   refine(w2).val.use ?_;simp only[go_sem]
   refine Wk ?_
   refine Sd ?_
   intro b' cap' g8
   refine Wk ?_
   exact⟨_,List.Sublist.refl _,_,rfl,AppSt.snoc _ _ _ rfl⟩
 ·rintro vs L - ⟨v,rfl,hA⟩
  rw[List.take_length] at hA
  generalize (cs.map fun c=>ab (f c))=ys at *
  rcases hA.inv with ⟨e1,rfl,rfl⟩|⟨b,cap,rfl,rfl⟩
  ·simp only[go_sem]
   refine Wk ?_
   refine ret_view [] ?_;simp only[go_sem]
   rw[e1]
   exact .mkTup (Vws.cons (.refl _) (Vws.cons (.nil 1) (Vws.refl _)))
  ·simp only[go_sem]
   refine Wk ?_
   refine ret_view [true] ?_;simp only[go_sem]
   exact .mkTup (Vws.cons (.refl _) (Vws.cons (Vw.ofLs (if_pos rfl) rfl) (Vws.refl _)))
theorem evaluate_all_bad (ps:List Pr) (hs:Sm ps) (t:Pd) (hz:szF t≤1000000) (hE:whE ps t ≠ 0) :
  PC Proofs.Tryz.prog 30 [aTr ps,aPd t] (.tup [.sl 1 [],.sl 1 [],ai (whE ps t)]):=by
 have h1:=predtype_Check ps hs t hz
 have h2:=fun a b=>evaluate_typed t hz a b 2
 have h2':checkF ps t=0→formedB t=true∧typedB t=true:=fun h=>⟨(checkF_zero h).2.1,by
  have:=(checkF_zero h).2.2.1
  unfold okT at this;simp only[Bool.and_eq_true] at this;exact this.2⟩
 have h3:=predtype_Temporal t hz
 have h4:=cuts_List ps hs
 unfold aLst at h4
 have hW:whE ps t=if checkF ps t ≠ 0 then checkF ps t else if resF t.kind ≠ 2 then 14 else if allB ntmB t=false then 15 else lstE ps:=rfl
 have haR:∀x:List (List Int),aRows x = .sl 1 (x.map aInts):=fun _=>rfl
 rw[haR] at h4
 generalize whE ps t=E at *
 generalize checkF ps t=e at *
 generalize formedB t=f at *
 generalize typedB t=y at *
 generalize resF t.kind=r at *
 generalize allB ntmB t=a at *
 generalize lstE ps=le at *
 generalize lstF ps=lf at *
 obtain⟨k,n,p,q,s,l⟩:=t
 simp only[aPd_mk] at *
 by_cases he:e=0
 ·subst he
  obtain⟨rfl,rfl⟩:=h2' rfl
  rw[if_neg (by decide)] at hW
  have h2:=h2 rfl rfl
  rw[Bool.true_and] at h3
  by_cases hr:r=2
  ·rw[if_pos hr] at h2
   rw[if_neg (by simpa using hr)] at hW
   cases a with
   | false =>
    rw[if_pos rfl] at hW
    subst hW
    refine PC.enter 64 [.tmp 4,.tmp 5,.tmp 6] [2,3,59] Proofs.Tryz.func30 rfl rfl rfl rfl rfl (by simp) (AWp.of ?_);simp only[go_sem]
    refine Wk ?_
    refine Sd ?_
    refine(h1).val.use ?_;simp only[go_sem]
    refine Wk ?_
    refine Sd ?_
    refine(h2).val.use ?_;simp only[go_sem]
    refine Wk ?_
    refine Sd ?_
    refine(h3).val.use ?_;simp only[go_sem]
    refine Wk ?_
    refine ret_view [] ?_;simp only[go_sem]
    exact .mkTup (Vws.cons (.nil 1) (Vws.cons (.nil 1) (Vws.refl _)))
   | true =>
    rw[if_neg (by decide)] at hW
    subst hW
    refine PC.enter 64 [.tmp 4,.tmp 5,.tmp 6] [2,3,59] Proofs.Tryz.func30 rfl rfl rfl rfl rfl (by simp) (AWp.of ?_);simp only[go_sem]
    refine Wk ?_
    refine Sd ?_
    refine(h1).val.use ?_;simp only[go_sem]
    refine Wk ?_
    refine Sd ?_
    refine(h2).val.use ?_;simp only[go_sem]
    refine Wk ?_
    refine Sd ?_
    refine(h3).val.use ?_;simp only[go_sem]
    refine Wk ?_
    refine Sd ?_
    refine(h4).val.use ?_;simp only[go_sem]
    refine W1 hE ?_
    refine ret_view [] ?_;simp only[go_sem]
    exact .mkTup (Vws.cons (.nil 1) (Vws.cons (.nil 1) (Vws.refl _)))
  ·rw[if_neg hr] at h2
   rw[if_pos hr] at hW
   subst hW
   refine PC.enter 64 [.tmp 4,.tmp 5,.tmp 6] [2,3,59] Proofs.Tryz.func30 rfl rfl rfl rfl rfl (by simp) (AWp.of ?_);simp only[go_sem]
   refine Wk ?_
   refine Sd ?_
   refine(h1).val.use ?_;simp only[go_sem]
   refine Wk ?_
   refine Sd ?_
   refine(h2).val.use ?_;simp only[go_sem]
   repeat(first|((with_reducible refine AWp.ofC ?_ ?_);exact rfl;simp only[go_sem,Int.reduceEq])|((with_reducible refine an ?_ ?_);exact Au))
   refine ret_view [] ?_;simp only[go_sem]
   exact .mkTup (Vws.cons (.nil 1) (Vws.cons (.nil 1) (Vws.refl _)))
 ·rw[if_pos he] at hW
  subst hW
  refine PC.enter 64 [.tmp 4,.tmp 5,.tmp 6] [2,3,59] Proofs.Tryz.func30 rfl rfl rfl rfl rfl (by simp) (AWp.of ?_);simp only[go_sem]
  refine Wk ?_
  refine Sd ?_
  refine(h1).val.use ?_;simp only[go_sem]
  refine W1 he ?_
  refine ret_view [] ?_;simp only[go_sem]
  exact .mkTup (Vws.cons (.nil 1) (Vws.cons (.nil 1) (Vws.refl _)))
theorem evaluate_Where_bad (ps:List Pr) (hs:Sm ps) (t:Pd) (hz:szF t≤1000000) (hE:whE ps t ≠ 0) :
  PC Proofs.Tryz.prog 11 [aTr ps,aPd t] (.tup [.sl 1 [],ai (whE ps t)]):=by
 have h1:=evaluate_all_bad ps hs t hz hE
 generalize whE ps t=E at *
 obtain⟨k,n,p,q,s,l⟩:=t
 simp only[aPd_mk] at *
 refine PC.enter 39 [.tmp 4,.tmp 5] [2,3,35] Proofs.Tryz.func11 rfl rfl rfl rfl rfl (by simp) (AWp.of ?_);simp only[go_sem]
 refine Wk ?_
 refine Sd ?_
 refine(h1).val.use ?_;simp only[go_sem]
 refine W1 hE ?_
 refine ret_view [] ?_;simp only[go_sem]
 exact .mkTup (Vws.cons (.nil 1) (Vws.refl _))
theorem evaluate_Where (ps:List Pr) (hs:Sm ps) (t:Pd) (hz:szF t≤1000000) (hn:allB nchB t=true) (hE:whE ps t=0) :
  PC Proofs.Tryz.prog 11 [aTr ps,aPd t] (.tup [aRows (whF ps t),ai 0]):=by
 have h1:=evaluate_all ps hs t hz hn hE
 have h5:=(lst_zero.1 (whE_zero hE).2.2.2).2
 have haR:∀x:List (List Int),aRows x = .sl 1 (x.map aInts):=fun _=>rfl
 unfold whF
 generalize cutsF ps=cs at *
 obtain⟨f,hf⟩:∃f:List Int→Bool,f=fun c=>truF (cutO ps c fun _ _=>0) t:=⟨_,rfl⟩
 have hfc:∀c,truF (cutO ps c fun _ _=>0) t=f c:=fun c=>by rw[hf]
 simp only[hfc] at h1 ⊢
 clear hf hfc hE hn
 have hff:cs.filter (fun c=>f c)=cs.filter f:=rfl
 rw[hff,haR]
 rw[haR] at h1
 clear hff
 obtain⟨k,n,p,q,s,l⟩:=t
 simp only[aPd_mk] at *
 refine PC.enter 39 [.tmp 4,.tmp 5] [2,3,35] Proofs.Tryz.func11 rfl rfl rfl rfl rfl (by simp) (AWp.of ?_);simp only[go_sem]
 refine Wk ?_
 refine Sd ?_
 refine(h1).val.use ?_;simp only[go_sem]
 refine Wk ?_
 refine AWp.range' cs.length [9] [7,22,23] (fun k vs L=>∃v,vs=[v]∧AppSt 30 1 (((cs.take k).filter f).map aInts) v L) (by omega) rfl rfl rfl ⟨anil,rfl,.nil⟩ ?_ ?_
 ·rintro k vs L hk - ⟨v,rfl,hA⟩
  have hg:=getD_map (f:=aInts) hk
  have hg2:=getD_map (f:=fun c=>ab (f c)) hk
  have hst:(cs.take (k+1)).filter f=(cs.take k).filter f ++ if f cs[k]=true then [cs[k]] else []:=by
   rw[List.take_succ_eq_append_getElem hk,List.filter_append]
   cases hb:f cs[k] <;> simp [hb]
  have hfl:((cs.take k).filter f).length≤k:=Nat.le_trans (List.length_filter_le _ _) (by rw[List.length_take];omega)
  rw[hst]
  clear hst h1
  generalize (cs.take k).filter f=fs at *
  generalize f cs[k]=B at *
  generalize cs[k]=x at *
  rcases hA.inv with ⟨e1,rfl,rfl⟩|⟨bq,cap,rfl,rfl⟩
  ·cases B with
   | true =>
    simp only[go_sem]
    refine W2 hg hg2 ?_
    refine Sd ?_
    intro b' cap' g8
    exact⟨_,List.Sublist.refl _,_,rfl,by (first|rw[if_pos rfl,List.map_append,e1]|rw[List.map_append,e1]);exact .row _ _ _⟩
   | false =>
    simp only[go_sem]
    refine W2 hg hg2 ?_
    exact⟨_,List.Sublist.refl _,_,rfl,by (try rw[if_neg (by decide),List.append_nil]);simpa using hA⟩
  ·cases B with
   | true =>
    simp only[go_sem]
    refine W2 hg hg2 ?_
    refine Sd ?_
    intro b' cap' g8
    exact⟨_,List.Sublist.refl _,_,rfl,by (first|rw[if_pos rfl,List.map_append]|rw[List.map_append]);exact AppSt.snoc b' cap' _ (by simp)⟩
   | false =>
    simp only[go_sem]
    refine W2 hg hg2 ?_
    exact⟨_,List.Sublist.refl _,_,rfl,by (try rw[if_neg (by decide),List.append_nil]);simpa using hA⟩
 ·rintro vs L - ⟨v,rfl,hA⟩
  rw[List.take_length] at hA
  generalize (cs.filter f).map aInts=ys at *
  rcases hA.inv with ⟨e1,rfl,rfl⟩|⟨b,cap,rfl,rfl⟩
  ·simp only[go_sem]
   refine Wk ?_
   refine ret_view [] ?_;simp only[go_sem]
   rw[e1]
   exact .mkTup (Vws.cons (.nil 1) (Vws.refl _))
  ·simp only[go_sem]
   refine Wk ?_
   refine ret_view [true] ?_;simp only[go_sem]
   exact .mkTup (Vws.cons (Vw.ofLs (if_pos rfl) rfl) (Vws.refl _))
end Go.AL
end
section
namespace Go.AL
open Go Go.RowKit
def addW (a b:Int):Int:=IntKind.i64.wrap (a+b)
def aAddW (_C:Cfg) (o:Oper) (x y:AV) (ρ:Env) (L:AHeap) (K:ARes):Prop :=
 match x,y with
 | .v (.int .i64 a),.v (.int .i64 b)=>K (put ρ o.dst (ai (addW a b))) L
 | _,_=>False
def aopW (C:Cfg) (o:Oper) (ρ:Env) (L:AHeap) (K:ARes):Prop :=
 match o.op with
 | .binOp .add _ x y _=>aAddW C o (ev ρ x) (ev ρ y) ρ L K
 | _=>aop C o ρ L K
def aregionW (C:Cfg):List Oper→Env→AHeap→ARes→Prop
 | [],ρ,L,K=>K ρ L
 | o :: rest,ρ,L,K=>o.guard=none∧aopW C o ρ L fun ρ L=>aregionW C rest ρ L K
def aregWK (C:Cfg) (rest:List Oper) (K:ARes) (ρ:Env) (L:AHeap):Prop:=aregionW C rest ρ L K
theorem aregionW_nil (C:Cfg) (ρ:Env) (L:AHeap) (K:ARes):aregionW C [] ρ L K=K ρ L:=rfl
theorem aregionW_cons (C:Cfg) (rest:List Oper) (o:Oper) (ρ:Env) (L:AHeap) (K:ARes):aregionW C (o :: rest) ρ L K=(o.guard=none∧aopW C o ρ L (aregWK C rest K)):=rfl
attribute [go_sem] aregionW_nil aregionW_cons aregWK aopW aAddW
end Go.AL
end
section
namespace Go.AL
open Go Go.RowKit
theorem AWp.range1 {C:Cfg} {id i1 i2 t s n t2:Nat} {ty1 ty2 ty3 ty4 r1 r2 r3:TypeId} {p1 p2 p3:String} {a1 a2 a3:Array Edge} {body:Code} {Q:AQ} {ρ:Env} {L:AHeap}
  (m:Nat) (ls ks:List Nat) (I:Nat→List AV→AHeap→Prop) (hm:m≤9223372036854775807) (hs:get ρ s=ai 0) (hn:get ρ n=ai m) (hnk:n ∈ ks) (hsk:s ∉ ks) (hsl:s ∉ ls) (hts:t ≠ s) (htk:t ∉ ks) (h2k:t2 ∉ ks) (htl:t ∉ ls) (h2l:t2 ∉ ls)
  (h0:I 0 (ls.map (get ρ)) L)
  (round:∀k vs L',k<m→vs.length=ls.length→I k vs L'→AWp C body (rangeQ id s k ls ks ρ (I (k+1)) Q) ((s,ai k) :: lenv ls ks vs ρ) L')
  (done:∀vs L',vs.length=ls.length→I m vs L'→Q .normal ((s,ai m) :: lenv ls ks vs ρ) L') :
  AWp C (.block id (.loop (.seq (.region i1 #[⟨some t,.binOp .lss ty1 (.tmp s) (.tmp n) ty2,r1,p1,a1,none⟩] false) (.seq (.cond (.tmp t) .skip (.exit id)) (.seq body
   (.region i2 #[⟨some t2,.binOp .add ty3 (.tmp s) (.const (.int .i64 1)) ty4,r2,p2,a2,none⟩,⟨some s,.move (.tmp t2),r3,p3,a3,none⟩] false)))))) Q ρ L:=by
 have hnl:∀vs:List AV,vs.length=ls.length→get (lenv ls ks vs ρ) n=ai m:=fun vs _=>by
  unfold lenv
  have hin:n ∈ (keep ks ρ).map (·.1):=by simp [keep,hnk]
  rw[get_append,if_pos hin]
  rcases get_keep ks ρ n with e|e
  ·have:∀l:List Nat,n ∈ l→get (keep l ρ) n=get ρ n:=fun l=>by
    induction l with
    | nil=>intro h;cases h
    | cons x r ih =>
     intro h
     simp only[keep,List.map_cons,get]
     split
     ·rename_i e;rw[e]
     ·rename_i e;exact ih ((List.mem_cons.1 h).resolve_left e)
   rw[this ks hnk,hn]
  ·rw[e,hn]
 have hns:n ≠ s:=fun e=>hsk (e ▸ hnk)
 have dropT:∀(k:Nat) (vs:List AV) (x:AV) (i:Nat),get ((s,ai k) :: lenv ls ks vs ρ) i = .any∨get ((s,ai k) :: lenv ls ks vs ρ) i=get ((t,x) :: (s,ai k) :: lenv ls ks vs ρ) i:=fun k vs x i=>by
  by_cases hi:i=t
  ·subst hi
   refine .inl ?_
   simp only[get,if_neg hts,lenv]
   rw[get_append,if_neg (by simp [keep,htk])]
   have:∀(l:List Nat) (v:List AV),i ∉ l→get (l.zip v) i = .any:=fun l=>by
    induction l with
    | nil=>intro v _;rfl
    | cons x r ih =>
     intro v h
     cases v with
     | nil=>rfl
     | cons y v =>
      simp only[List.zip_cons_cons,get]
      rw[if_neg (by rintro rfl;exact h List.mem_cons_self)]
      exact ih v (fun hh=>h (List.mem_cons_of_mem _ hh))
   exact this ls vs htl
  ·exact .inr (by simp [get,hi])
 refine AWp.block (AWp.loop (s :: ls) ks (fun vs' L'=>∃(k:Nat) (vs:List AV),vs'=ai (k:Int) :: vs∧k≤m∧I k vs L') (fun vs' _=>match vs' with | .v (.int _ k) :: _=>m - k.toNat|_=>0)
  ⟨0,_,by simp [hs],Nat.zero_le _,h0⟩ ?_)
 rintro vs' L' hl ⟨k,vs,rfl,hk,hI⟩
 have hvl:vs.length=ls.length:=by simpa using hl
 -- the counter first
 refine AWp.st (ρ':=(s,ai k) :: lenv ls ks vs ρ) (L':=L') (fun w0 M A0 a w h=>st_forget h fun i => ?_) ?_
 ·by_cases hi:i=s
  ·subst hi
   refine .inr ?_
   simp only[get,if_true,lenv]
   rw[get_append,if_neg (by simp [keep,hsk])]
   simp [get]
  ·refine .inr ?_
   simp only[get,if_neg hi,lenv,List.zip_cons_cons]
   rw[get_append,get_append]
   split
   ·rfl
   ·simp [get,hi]
 have hget_s:get ((s,ai k) :: lenv ls ks vs ρ) s=ai k:=by simp [get]
 have hget_n:get ((s,ai k) :: lenv ls ks vs ρ) n=ai m:=by simp only[get,if_neg hns];exact hnl vs hvl
 refine AWp.seq (AWp.region ?_)
 simp only[aregion,astep,aop,aval,ev,hget_s,hget_n,w2,fo,aEq,aBin,thenQ,put]
 refine⟨by simp,?_⟩
 refine AWp.seq (AWp.cond (t:=decide ((k:Int)<m)) (by simp [ev,get]) (fun ht => ?_) (fun hf => ?_))
 ·have hlt:k<m:=by simpa using ht
  refine AWp.of ?_
  simp only[awp1,thenQ]
  refine AWp.st (ρ':=(s,ai k) :: lenv ls ks vs ρ) (L':=L') (fun w0 M A0 a w h=>st_forget h (dropT k vs _)) ?_
  refine AWp.seq ((round k vs L' hlt hvl hI).mono ?_)
  intro e ρ' L'' hq
  cases e with
  | normal =>
   obtain⟨g1,g2,L3,g3,g4⟩:=hq
   simp only[thenQ]
   refine AWp.region ?_
   have hi64:I64 ((k:Int)+1):=by unfold I64;omega
   simp only[aregion,astep,aop,aval,ev,g1,w2,fo,aEq,aBin,put,if_true,get]
   refine⟨⟨⟨trivial,trivial⟩,trivial,hi64⟩,trivial,?_⟩
   simp only[roundQ]
   have hks:ks.map (get ((s,ai ((k:Int)+1)) :: (t2,ai ((k:Int)+1)) :: ρ'))=ks.map (get ρ'):=List.map_congr_left fun j hj=>by
    simp only[get];rw[if_neg (by rintro rfl;exact hsk hj),if_neg (by rintro rfl;exact h2k hj)]
   have hls:ls.map (get ((s,ai ((k:Int)+1)) :: (t2,ai ((k:Int)+1)) :: ρ'))=ls.map (get ρ'):=List.map_congr_left fun j hj=>by
    simp only[get];rw[if_neg (by rintro rfl;exact hsl hj),if_neg (by rintro rfl;exact h2l hj)]
   refine⟨by rw[hks];exact g2,L3,g3,⟨k+1,_,?_,hlt,g4⟩,?_⟩
   ·rw[List.map_cons,hls]
    simp only[get,if_true]
    rfl
   ·simp only[List.map_cons,get,if_true]
    have:((k:Int)+1).toNat=k+1:=by omega
    simp only[this,Int.toNat_natCast]
    omega
  | exit id'=>simpa [thenQ,roundQ,blockQ,rangeQ] using hq
  | goto l=>exact hq
  | ret=>exact hq
  | panic c=>exact hq
  | outgrown=>exact hq
 ·have hkm:k=m:=by have:¬((k:Int)<m):=by simpa using hf
                   omega
  subst hkm
  refine AWp.st (ρ':=(s,ai k) :: lenv ls ks vs ρ) (L':=L') (fun w0 M A0 a w h=>st_forget h (dropT k vs _)) (AWp.of ?_)
  simp only[awp1,thenQ,roundQ,blockQ,if_true]
  exact done vs L' hvl hI
theorem AWp.range1' {C:Cfg} {id i1 i2 t s n t2:Nat} {ty1 ty2 ty3 ty4 r1 r2 r3:TypeId} {p1 p2 p3:String} {a1 a2 a3:Array Edge} {body:Code} {Q:AQ} {ρ:Env} {L:AHeap}
  (m:Nat) (ls ks:List Nat) (I:Nat→List AV→AHeap→Prop) (hm:m≤9223372036854775807) (hs:get ρ s=ai 0) (hn:get ρ n=ai m) (hok:rOk s n t t2 ls ks=true)
  (h0:I 0 (ls.map (get ρ)) L)
  (round:∀k vs L',k<m→vs.length=ls.length→I k vs L'→AWp C body (rangeQ id s k ls ks ρ (I (k+1)) Q) ((s,ai k) :: lenv ls ks vs ρ) L')
  (done:∀vs L',vs.length=ls.length→I m vs L'→Q .normal ((s,ai m) :: lenv ls ks vs ρ) L') :
  AWp C (.block id (.loop (.seq (.region i1 #[⟨some t,.binOp .lss ty1 (.tmp s) (.tmp n) ty2,r1,p1,a1,none⟩] false) (.seq (.cond (.tmp t) .skip (.exit id)) (.seq body
   (.region i2 #[⟨some t2,.binOp .add ty3 (.tmp s) (.const (.int .i64 1)) ty4,r2,p2,a2,none⟩,⟨some s,.move (.tmp t2),r3,p3,a3,none⟩] false)))))) Q ρ L:=by
 simp only[rOk,Bool.and_eq_true,Bool.not_eq_true',List.contains_eq_mem,decide_eq_false_iff_not,decide_eq_true_eq,bne_iff_ne,ne_eq] at hok
 obtain⟨⟨⟨⟨⟨⟨⟨h1,h2⟩,h3⟩,h4⟩,h5⟩,h6⟩,h7⟩,h8⟩:=hok
 exact AWp.range1 m ls ks I hm hs hn h1 h2 h3 h4 h5 h6 h7 h8 h0 round done
end Go.AL
end
section
namespace Go.AL
open Go Go.RowKit
set_option maxRecDepth 4000
theorem cut_Meet (ps:List Pr) (hs:Sm ps) (a b:List Int):PC Proofs.Tryz.prog 13 [aTr ps,aInts a,aInts b] (aComb ps a b fun x y=>if y<x then y else x):=by
 have h1:∀x y:Int,PC Proofs.Tryz.prog 32 [ai x,ai y] (ai (if y<x then y else x)):=fun x y=>by
  refine PC.enter 8 [.tmp 4] [] Proofs.Tryz.func32 rfl rfl rfl rfl rfl (by simp) (AWp.of ?_);simp only[go_sem]
  refine Wk ?_
  refine ret_eq ?_;simp only[go_sem]
 have h2:=cut_combine ps hs a b 32 (fun x y=>if y<x then y else x) h1
 have hsp:∃c n,aComb ps a b (fun x y=>if y<x then y else x) = .tup [aInts c,ai n]:=by
  unfold aComb;split
  ·exact⟨[],_,rfl⟩
  ·exact⟨_,_,rfl⟩
 obtain⟨c,n,hc⟩:=hsp
 rw[hc] at h2 ⊢
 clear hc
 refine PC.enter 14 [.tmp 6,.tmp 7] [3] Proofs.Tryz.func13 rfl rfl rfl rfl rfl (by simp) (AWp.of ?_);simp only[go_sem]
 refine Wk ?_
 refine Sd ?_
 refine(h2).val.use ?_;simp only[go_sem]
 refine Wk ?_
 refine ret_eq ?_;simp only[go_sem]
def openK (ps:List Pr) (c:List Int) (r:AV) (L:AHeap):Prop:=∃b cap,r = .tup [.ls b 1 0 ps.length cap,ai 0]∧L=[(b,.row 3 1 ((openF ps c).map ai) cap)]
theorem cut_Open1 (c:List Int) (s r:Eid) (b n cap:Nat) (hn:n=c.length) (h0:0≤r.1) (h1:r.1<c.length) (h2 : -1000000≤r.2) (h3:r.2≤1000001):MCalls Proofs.Tryz.prog 46 [.ls b 1 0 n cap,aEid s,aEid r] [(b,.row 3 1 (c.map ai) cap)] fun _ L=>L=[(b,.row 3 1 ((c.set r.1.toNat (r.2 - 1)).map ai) cap)]:=by
 subst hn
 have hg:=getD_cAt (c:=c) h0 h1
 refine MCalls.enter' 13 [] [4,5] Proofs.Tryz.func46 rfl rfl rfl rfl rfl (by simp) (AWp.of ?_);simp only[go_sem]
 refine W1 hg ?_
 refine ret_own ?_
 simp only[go_sem]
 rw[List.map_set]
theorem cut_repairedO (ps:List Pr) (hs:Sm ps) (hv:validF ps=true) (c:List Int) (hc:c.length=ps.length) (hr:inRangeF ps c=true) :
  MCalls Proofs.Tryz.prog 45 [aTr ps,aInts c,.v (.func (.func 46) #[] #[])] [] (openK ps c):=by
 unfold openK
 obtain⟨hl1,hl8⟩:=valid_len hv
 have hs1:=cut_sized ps hs [c] (by simp)
 have e1:sizedF ps [c]=true:=by unfold sizedF;rw[hv];simp [hc]
 rw[e1] at hs1
 have hs2:=cut_inRange ps hs c hc
 rw[hr] at hs2
 refine MCalls.enter' 40 [.tmp 6,.tmp 7] [3,9,10,15] Proofs.Tryz.func45 rfl rfl rfl rfl rfl (by simp) (AWp.of ?_);simp only[go_sem]
 refine Wk ?_
 refine Sd ?_
 refine(hs1).val.use ?_;simp only[go_sem]
 refine Wk ?_
 refine Sd ?_
 refine(hs2).val.use ?_;simp only[go_sem]
 refine Wk ?_
 refine(ints_cloneO c (by omega)).val.mono ?_
 rintro r L hA
 rcases hA.inv with ⟨e1,rfl,rfl⟩|⟨b,cap,rfl,rfl⟩
 ·have:c.length=0:=by simpa using congrArg List.length e1
  omega
 simp only[go_sem,List.length_map]
 refine Sd ?_
 refine AWp.of ?_;simp only[go_sem]
 refine AWp.loopN [] [2,3,8] (fun m vs L=>∃d,d.length=ps.length∧inRangeF ps d=true∧openF ps d=openF ps c∧m=totC d∧L=[(b,.row 3 1 (d.map ai) cap)]) (totC c) ⟨c,hc,hr,rfl,rfl,rfl⟩ ?_
 rintro m vs L - ⟨d,hd,hdr,hde,rfl,rfl⟩
 have hm:=cut_missing ps hs d hv hd hdr
 have ho:=Own.miss ps d
 have hvw:Vws [(b,.row 3 1 (d.map ai) cap)] [aTr ps,.ls b 1 0 c.length cap] [aTr ps,aInts d]:=Vws.cons (.refl _) (Vws.cons (Vw.ofLs (if_pos rfl) (by rw[List.length_map];omega)) .nil)
 simp only[go_sem]
 refine Wk ?_
 cases h:missF ps d with
 | none =>
  rw[openF_none h] at hde
  unfold aMiss at hm ho
  rw[h] at hm ho
  refine(PC.view hvw hm ho ?_).val
  simp only[go_sem]
  intro b9 g1 b10 g2 g3
  have n1:¬b9=b10:=by omega
  have n2:¬b10=b9:=by omega
  have n3:¬b=b9:=by omega
  have n4:¬b=b10:=by omega
  have n5:¬b9=b:=by omega
  have n6:¬b10=b:=by omega
  simp only[go_sem,n1,n6]
  refine W6 n1 n2 n3 n4 n5 n6 ?_
  refine ret_own ?_
  simp only[go_sem]
  rw[← hde,hc]
  exact⟨b,cap,rfl,rfl⟩
 | some x =>
  obtain⟨a1,a2,a3⟩:=miss_prev hv hd hdr h
  have hst:=openF_step hv hd hdr h
  obtain⟨p,hp,i,hi,_,_,_,_,_,_,_,hx,_⟩:=miss_inv hv hd h
  have hel:=hs.evs _ (List.getElem_mem hp)
  have hx1:0≤x.2.1∧x.2.1<d.length ∧ -1000000≤x.2.2∧x.2.2≤1000001:=by rw[hx];dsimp only;omega
  unfold aMiss at hm ho
  rw[h] at hm ho
  clear hx
  obtain⟨s,r⟩:=x
  refine(PC.view hvw hm ho ?_).val
  simp only[go_sem]
  intro b9 g1 b10 g2 g3
  have n1:¬b9=b10:=by omega
  have n2:¬b10=b9:=by omega
  have n3:¬b=b9:=by omega
  have n4:¬b=b10:=by omega
  have n5:¬b9=b:=by omega
  have n6:¬b10=b:=by omega
  simp only[go_sem,n1,n6]
  refine W6 n1 n2 n3 n4 n5 n6 ?_
  refine(cut_Open1 d s r b c.length cap (by omega) hx1.1 hx1.2.1 hx1.2.2.1 hx1.2.2.2).val.mono ?_
  rintro r L rfl
  simp only[go_sem]
  refine Wk ?_
  exact⟨_,List.Sublist.refl _,_,by omega,_,a1,a2,by rw[← hst,hde],rfl,rfl⟩
theorem cut_Open (ps:List Pr) (hs:Sm ps) (hv:validF ps=true) (c:List Int) (hc:c.length=ps.length) (hr:inRangeF ps c=true) :
  MCalls Proofs.Tryz.prog 28 [aTr ps,aInts c] [] (openK ps c):=by
 have h:=cut_repairedO ps hs hv c hc hr
 unfold openK at *
 refine MCalls.enter' 11 [.tmp 4,.tmp 5] [2] Proofs.Tryz.func28 rfl rfl rfl rfl rfl (by simp) (AWp.of ?_);simp only[go_sem]
 refine Wk ?_
 refine h.val.mono ?_
 rintro r L ⟨b,cap,rfl,rfl⟩
 simp only[go_sem]
 refine Wk ?_
 refine ret_own ?_
 simp only[go_sem]
 exact⟨b,cap,rfl,rfl⟩
def BadI (n:Nat) (x:List Int) (i:Nat):Prop:=x.getD i 0<0∨(n:Int)<x.getD i 0∨(0<i∧x.getD i 0≤x.getD (i - 1) 0)
open Classical in
noncomputable def listsF (ps:List Pr) (l:List (List Int)):Int:=if validF ps=true∧l.length=ps.length then (if ∃p i,p<l.length∧i<(l.getD p []).length∧BadI (nev ps p) (l.getD p []) i then 2 else 0) else 1
end Go.AL
end
section
namespace Go.AL
open Go Go.RowKit
set_option maxRecDepth 4000
section
variable {ps:List Pr} {E:Elim} {l:List (List Int)} {a:Nat→Nat}
end
def fillA (n:Nat) (f:Nat→Int) (p:Nat):List AV:=(List.range n).map fun q=>ai (if q<p then f q else 0)
theorem fillA_len (n:Nat) (f:Nat→Int) (p:Nat):(fillA n f p).length=n:=by simp [fillA]
theorem fillA_zero (n:Nat) (f:Nat→Int):List.replicate n (ai 0)=fillA n f 0:=by unfold fillA;apply List.ext_getElem (by simp);intro i h1 h2;simp
theorem fillA_set {n:Nat} {f:Nat→Int} {p:Nat} : (fillA n f p).set p (ai (f p))=fillA n f (p+1):=by
 unfold fillA
 rw[map_range_set];congr 1;funext q
 by_cases e:q=p
 ·rw[if_pos e,if_pos (by omega),e]
 ·rw[if_neg e]
  by_cases e2:q<p
  ·rw[if_pos e2,if_pos (by omega)]
  ·rw[if_neg e2,if_neg (by omega)]
theorem fillA_get {n:Nat} {f:Nat→Int} {p:Nat} (hp:p<n):(fillA n f p).getD p .any=ai 0:=by
 have:=map_range_getD hp (fun q=>ai (if q<p then f q else 0))
 rw[if_neg (Nat.lt_irrefl p)] at this
 exact this
end Go.AL
end
