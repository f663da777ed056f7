/- Texts of this claim's proof: AlWrp, AlRng, WMf, WNd2, WNh, WNi, WNj, WOb, WOc, WOd, WNk, WXh, WXi, WOe, WV4, WV5, WFa, WFb, WGp, WGa, WV7, WXp, WV6, WU1, WV10, WU3, WU4, WU5, WU6, WV8, WV11, WV12, WV13, WV15, WCs, WV16, WQp, WU7, WU8, WPw3, WV17, WXm, WXs. No condition. -/
import Derived.Test.YtbegiibjiidkmaaGreatDoorM4
import Derived.Test.YtbegiibjiidkmaaGreatDoorM3
import Derived.Test.YtbegiibjiidkmaaGreatDoorM18
import Derived.Test.YtbegiibjiidkmaaGreatDoorM13
import Derived.Test.YtbegiibjiidkmaaGreatDoorM17
import Derived.Test.YtbegiibjiidkmaaGreatDoorM7
import Derived.Test.YtbegiibjiidkmaaGreatDoorM14
import Derived.Test.YtbegiibjiidkmaaGreatDoorM10
import Derived.Test.YtbegiibjiidkmaaGreatDoorM9
import Derived.Test.YtbegiibjiidkmaaGreatDoorM5
section
namespace Go.AL
open Go Go.RowKit Proofs.Tryz
def addW (a b:Int):Int:=IntKind.i64.wrap (a+b)
def aAddW (C:Cfg)(o:Oper)(x y:AV)(ρ:Env)(L:AHeap)(K:ARes):Prop :=
 match x,y with
 | .v (.int .i64 a),.v (.int .i64 b)=>K (put ρ o.dst (ai (addW a b))) L
 | _,_=>False
def aopW (C:Cfg)(o:Oper)(ρ:Env)(L:AHeap)(K:ARes):Prop :=
 match o.op with
 | .binOp .add _ x y _=>aAddW C o (ev ρ x) (ev ρ y) ρ L K
 | _=>aop C o ρ L K
theorem aopW_sound {C:Cfg}{o:Oper}{ρ:Env}{L:AHeap}{K:ARes}(hd:dstOk C o)(hdef:∀c,o.op ≠ .defer c)(h:aopW C o ρ L K):AOp C o ρ L K:=by
 unfold aopW at h
 split at h
 ·rename_i t x y t' hop
  unfold aAddW at h
  split at h
  ·rename_i a b hx hy
   refine AOp.val hd hdef (fun ac w A hρ hL=>⟨.int .i64 (addW a b),?_,.v _⟩) h
   have h1:=hρ x;rw[hx] at h1;have h1:=h1.inv_v
   have h2:=hρ y;rw[hy] at h2;have h2:=h2.inv_v
   unfold execOp
   rw[hop]
   simp [h1,h2,binOp,eqGuard,Op.intArith,addW]
  ·exact h.elim
 ·exact aop_sound hd hdef h
def aregionW (C:Cfg):List Oper->Env->AHeap->ARes->Prop
 | [],ρ,L,K=>K ρ L
 | o :: rest,ρ,L,K=>o.guard=none/\aopW C o ρ L fun ρ L=>aregionW C rest ρ L K
def aregWK (C:Cfg)(rest:List Oper)(K:ARes)(ρ:Env)(L:AHeap):Prop:=aregionW C rest ρ L K
theorem aregionW_nil (C:Cfg)(ρ:Env)(L:AHeap)(K:ARes):aregionW C [] ρ L K=K ρ L:=rfl
theorem aregionW_cons (C:Cfg)(rest:List Oper)(o:Oper)(ρ:Env)(L:AHeap)(K:ARes):aregionW C (o :: rest) ρ L K=(o.guard=none/\aopW C o ρ L (aregWK C rest K)):=rfl
theorem aregionW_sound {C:Cfg}{ops:Array Oper}{K:ARes}{n:Nat}{w0:World}{M A0:Foot}{Q:Exit->Act->World->Prop}(hQ:∀a w,post w0 M A0 C.N K a w->Q .normal a w)(hok:ops.toList.all (operOk C.N)=true) :
  ∀(l:List Oper) (k:Nat),(∀j,l[j]?=ops[k+j]?)->∀(ρ:Env) (L:AHeap) (a:Act) (w:World),aregionW C l ρ L K->St w0 M A0 C.N ρ L a w->wpOpsIn (Fw C.r) n C.P ops Q (List.range' k l.length) a w
 | [],k,_,ρ,L,a,w,h,hs=>hQ a w ⟨ρ,L,h,hs⟩
 | o :: l,k,hl,ρ,L,a,w,h,hs=>by
  have h0:ops[k]?=some o:=by simpa using (hl 0).symm
  have ho:operOk C.N o=true:=List.all_eq_true.1 hok o (List.mem_of_getElem? (by simpa using h0))
  rw[List.length_cons,List.range'_succ,wpOpsIn_cons]
  refine wpOpIn_mono ?_ (AOp.gop h0 h.1 (aopW_sound (operOk_dst ho) (operOk_def ho) h.2) n w0 M A0 a w Q hs)
  rintro a' w' ⟨ρ',L',h1,h2⟩
  exact aregionW_sound hQ hok l (k+1) (fun j=>by have:=hl (j+1);simpa [Nat.add_assoc,Nat.add_comm 1 j] using this) ρ' L' a' w' h1 h2
theorem AWp.regionW {C:Cfg}{id:Nat}{ops:Array Oper}{Q:AQ}{ρ:Env}{L:AHeap}(h:aregionW C ops.toList ρ L (Q .normal)):AWp C (.region id ops false) Q ρ L:=fun hok n w0 M A0 a w hs=>by
 refine wpIn_region ?_
 have:=aregionW_sound (C:=C) (ops:=ops) (K:=Q .normal) (n:=n) (Q:=cq C w0 M A0 Q) (fun a w ⟨ρ',L',h1,h2⟩=>⟨ρ',L',h1,h2⟩) hok ops.toList 0 (by simp) ρ L a w h hs
 rwa [Array.length_toList,<- List.range_eq_range'] at this
attribute [go_sem] aregionW_nil aregionW_cons aregWK aopW aAddW
end Go.AL
end
section
namespace Go.AL
open Go Go.RowKit Proofs.Tryz
theorem AWp.range1 {C:Cfg}{id i1 i2 t s n t2:Nat}{ty1 ty2 ty3 ty4 r1 r2 r3:TypeId}{p1 p2 p3:String}{a1 a2 a3:Array Edge}{body:Code}{Q:AQ}{ρ:Env}{L:AHeap}
  (m:Nat) (ls ks:List Nat) (I:Nat->List AV->AHeap->Prop) (hm:m<=9223372036854775807) (hs:get ρ s=ai 0) (hn:get ρ n=ai m) (hnk:n ∈ ks) (hsk:s ∉ ks) (hsl:s ∉ ls) (hts:t ≠ s) (htk:t ∉ ks) (h2k:t2 ∉ ks) (htl:t ∉ ls) (h2l:t2 ∉ ls)
  (h0:I 0 (ls.map (get ρ)) L)
  (round:∀k vs L',k<m->vs.length=ls.length->I k vs L'->AWp C body (rangeQ id s k ls ks ρ (I (k+1)) Q) ((s,ai k) :: lenv ls ks vs ρ) L')
  (done:∀vs L',vs.length=ls.length->I m vs L'->Q .normal ((s,ai m) :: lenv ls ks vs ρ) L') :
  AWp C (.block id (.loop (.seq (.region i1 #[⟨some t,.binOp .lss ty1 (.tmp s) (.tmp n) ty2,r1,p1,a1,none⟩] false) (.seq (.cond (.tmp t) .skip (.exit id)) (.seq body
   (.region i2 #[⟨some t2,.binOp .add ty3 (.tmp s) (.const (.int .i64 1)) ty4,r2,p2,a2,none⟩,⟨some s,.move (.tmp t2),r3,p3,a3,none⟩] false)))))) Q ρ L:=by
 have hnl:∀vs:List AV,vs.length=ls.length->get (lenv ls ks vs ρ) n=ai m:=fun vs _=>by
  unfold lenv
  have hin:n ∈ (keep ks ρ).map (·.1):=by simp [keep,hnk]
  rw[get_append,if_pos hin]
  rcases get_keep ks ρ n with e|e
  ·have:∀l:List Nat,n ∈ l->get (keep l ρ) n=get ρ n:=fun l=>by
    induction l with
    | nil=>intro h;cases h
    | cons x r ih =>
     intro h
     simp only[keep,List.map_cons,get]
     split
     ·rename_i e;rw[e]
     ·rename_i e;exact ih ((List.mem_cons.1 h).resolve_left e)
   rw[this ks hnk,hn]
  ·rw[e,hn]
 have hns:n ≠ s:=fun e=>hsk (e ▸ hnk)
 have dropT:∀(k:Nat) (vs:List AV) (x:AV) (i:Nat),get ((s,ai k) :: lenv ls ks vs ρ) i = .any\/get ((s,ai k) :: lenv ls ks vs ρ) i=get ((t,x) :: (s,ai k) :: lenv ls ks vs ρ) i:=fun k vs x i=>by
  by_cases hi:i=t
  ·subst hi
   refine .inl ?_
   simp only[get,if_neg hts,lenv]
   rw[get_append,if_neg (by simp [keep,htk])]
   have:∀(l:List Nat) (v:List AV),i ∉ l->get (l.zip v) i = .any:=fun l=>by
    induction l with
    | nil=>intro v _;rfl
    | cons x r ih =>
     intro v h
     cases v with
     | nil=>rfl
     | cons y v =>
      simp only[List.zip_cons_cons,get]
      rw[if_neg (by rintro rfl;exact h List.mem_cons_self)]
      exact ih v (fun hh=>h (List.mem_cons_of_mem _ hh))
   exact this ls vs htl
  ·exact .inr (by simp [get,hi])
 refine AWp.block (AWp.loop (s :: ls) ks (fun vs' L'=>∃(k:Nat) (vs:List AV),vs'=ai (k:Int) :: vs/\k<=m/\I k vs L') (fun vs' _=>match vs' with | .v (.int _ k) :: _=>m - k.toNat|_=>0)
  ⟨0,_,by simp [hs],Nat.zero_le _,h0⟩ ?_)
 rintro vs' L' hl ⟨k,vs,rfl,hk,hI⟩
 have hvl:vs.length=ls.length:=by simpa using hl
 -- the counter first
 refine AWp.st (ρ':=(s,ai k) :: lenv ls ks vs ρ) (L':=L') (fun w0 M A0 a w h=>st_forget h fun i=>?_) ?_
 ·by_cases hi:i=s
  ·subst hi
   refine .inr ?_
   simp only[get,if_true,lenv]
   rw[get_append,if_neg (by simp [keep,hsk])]
   simp [get]
  ·refine .inr ?_
   simp only[get,if_neg hi,lenv,List.zip_cons_cons]
   rw[get_append,get_append]
   split
   ·rfl
   ·simp [get,hi]
 have hget_s:get ((s,ai k) :: lenv ls ks vs ρ) s=ai k:=by simp [get]
 have hget_n:get ((s,ai k) :: lenv ls ks vs ρ) n=ai m:=by simp only[get,if_neg hns];exact hnl vs hvl
 refine AWp.seq (AWp.region ?_)
 simp only[aregion,astep,aop,aval,ev,hget_s,hget_n,w2,fo,aEq,aBin,thenQ,put]
 refine⟨by simp,?_⟩
 refine AWp.seq (AWp.cond (t:=decide ((k:Int)<m)) (by simp [ev,get]) (fun ht=>?_) (fun hf=>?_))
 ·have hlt:k<m:=by simpa using ht
  refine AWp.of ?_
  simp only[awp1,thenQ]
  refine AWp.st (ρ':=(s,ai k) :: lenv ls ks vs ρ) (L':=L') (fun w0 M A0 a w h=>st_forget h (dropT k vs _)) ?_
  refine AWp.seq ((round k vs L' hlt hvl hI).mono ?_)
  intro e ρ' L'' hq
  cases e with
  | normal =>
   obtain⟨g1,g2,L3,g3,g4⟩:=hq
   simp only[thenQ]
   refine AWp.region ?_
   have hi64:I64 ((k:Int)+1):=by unfold I64;omega
   simp only[aregion,astep,aop,aval,ev,g1,w2,fo,aEq,aBin,put,if_true,get]
   refine⟨⟨⟨trivial,trivial⟩,trivial,hi64⟩,trivial,?_⟩
   simp only[roundQ]
   have hks:ks.map (get ((s,ai ((k:Int)+1)) :: (t2,ai ((k:Int)+1)) :: ρ'))=ks.map (get ρ'):=List.map_congr_left fun j hj=>by
    simp only[get];rw[if_neg (by rintro rfl;exact hsk hj),if_neg (by rintro rfl;exact h2k hj)]
   have hls:ls.map (get ((s,ai ((k:Int)+1)) :: (t2,ai ((k:Int)+1)) :: ρ'))=ls.map (get ρ'):=List.map_congr_left fun j hj=>by
    simp only[get];rw[if_neg (by rintro rfl;exact hsl hj),if_neg (by rintro rfl;exact h2l hj)]
   refine⟨by rw[hks];exact g2,L3,g3,⟨k+1,_,?_,hlt,g4⟩,?_⟩
   ·rw[List.map_cons,hls]
    simp only[get,if_true]
    rfl
   ·simp only[List.map_cons,get,if_true]
    have:((k:Int)+1).toNat=k+1:=by omega
    simp only[this,Int.toNat_natCast]
    omega
  | exit id'=>simpa [thenQ,roundQ,blockQ,rangeQ] using hq
  | goto l=>exact hq
  | ret=>exact hq
  | panic c=>exact hq
  | outgrown=>exact hq
 ·have hkm:k=m:=by have:¬((k:Int)<m):=by simpa using hf
                   omega
  subst hkm
  refine AWp.st (ρ':=(s,ai k) :: lenv ls ks vs ρ) (L':=L') (fun w0 M A0 a w h=>st_forget h (dropT k vs _)) (AWp.of ?_)
  simp only[awp1,thenQ,roundQ,blockQ,if_true]
  exact done vs L' hvl hI
theorem AWp.range1' {C:Cfg}{id i1 i2 t s n t2:Nat}{ty1 ty2 ty3 ty4 r1 r2 r3:TypeId}{p1 p2 p3:String}{a1 a2 a3:Array Edge}{body:Code}{Q:AQ}{ρ:Env}{L:AHeap}
  (m:Nat) (ls ks:List Nat) (I:Nat->List AV->AHeap->Prop) (hm:m<=9223372036854775807) (hs:get ρ s=ai 0) (hn:get ρ n=ai m) (hok:rOk s n t t2 ls ks=true)
  (h0:I 0 (ls.map (get ρ)) L)
  (round:∀k vs L',k<m->vs.length=ls.length->I k vs L'->AWp C body (rangeQ id s k ls ks ρ (I (k+1)) Q) ((s,ai k) :: lenv ls ks vs ρ) L')
  (done:∀vs L',vs.length=ls.length->I m vs L'->Q .normal ((s,ai m) :: lenv ls ks vs ρ) L') :
  AWp C (.block id (.loop (.seq (.region i1 #[⟨some t,.binOp .lss ty1 (.tmp s) (.tmp n) ty2,r1,p1,a1,none⟩] false) (.seq (.cond (.tmp t) .skip (.exit id)) (.seq body
   (.region i2 #[⟨some t2,.binOp .add ty3 (.tmp s) (.const (.int .i64 1)) ty4,r2,p2,a2,none⟩,⟨some s,.move (.tmp t2),r3,p3,a3,none⟩] false)))))) Q ρ L:=by
 simp only[rOk,Bool.and_eq_true,Bool.not_eq_true',List.contains_eq_mem,decide_eq_false_iff_not,decide_eq_true_eq,bne_iff_ne,ne_eq] at hok
 obtain⟨⟨⟨⟨⟨⟨⟨h1,h2⟩,h3⟩,h4⟩,h5⟩,h6⟩,h7⟩,h8⟩:=hok
 exact AWp.range1 m ls ks I hm hs hn h1 h2 h3 h4 h5 h6 h7 h8 h0 round done
end Go.AL
end
section
namespace Go.AL
open Go Go.RowKit Proofs.Tryz
set_option maxRecDepth 4000
def eidOk (ps:List Pr)(x:Eid):Bool:=decide (0<=x.1) && (decide (x.1<ps.length) && (decide (1<=x.2) && decide (x.2<=nev ps x.1.toNat)))
section
variable {ps:List Pr} (hv:validF ps=true) {x:Eid} {D d:List Int} {Q:List Eid} {y:Eid}
end
def pastV (ps:List Pr)(s:Stp):AV:=if s.2.2=nev ps s.1 then anil else aInts (ptF ps s.1 s.2.2)
def aStr (ps:List Pr)(s:Stp):AV:=.agg [ai s.1,ai s.2.1,ai s.2.2,pastV ps s]
def SpIn (ps:List Pr)(s:Stp):Prop:=s.1<ps.length/\s.2.1<=s.2.2/\s.2.2<=nev ps s.1
theorem pastV_fo (ps:List Pr)(s:Stp):fo (pastV ps s)=(True,pastV ps s):=by unfold pastV;split <;> rfl
theorem pastV_one (ps:List Pr)(s:Stp):one (pastV ps s)=true:=by unfold pastV;split <;> rfl
attribute [go_sem ↓] pastV_fo pastV_one
attribute [go_sem] aStr
abbrev Spn3:=Int × Int × Int
def BadI (n:Nat)(x:List Int)(i:Nat):Prop:=x.getD i 0<0\/(n:Int)<x.getD i 0\/(0<i/\x.getD i 0<=x.getD (i - 1) 0)
open Classical in
noncomputable def listsF (ps:List Pr)(l:List (List Int)):Int:=if validF ps=true/\l.length=ps.length then (if ∃p i,p<l.length/\i<(l.getD p []).length/\BadI (nev ps p) (l.getD p []) i then 2 else 0) else 1
end Go.AL
end
section
namespace Go.AL
open Go Go.RowKit Proofs.Tryz
set_option maxRecDepth 4000
section
variable {ps:List Pr} {E:Elim} {l:List (List Int)} {a:Nat->Nat}
end
theorem totS_le2 {c c':Nat->Nat} : ∀n,(∀q,q<n->c' q<=c q)->totS n c'<=totS n c
 | 0,_=>by simp [totS]
 | n+1,h=>by
  rw[totS_succ,totS_succ]
  have:=totS_le2 n fun q hq=>h q (by omega)
  have:=h n (by omega)
  omega
theorem totS_lt2 {c c':Nat->Nat}{p:Nat} : ∀n,(∀q,q<n->c' q<=c q)->p<n->c' p<c p->totS n c'<totS n c
 | 0,_,hp,_=>by omega
 | n+1,h,hp,hlt=>by
  rw[totS_succ,totS_succ]
  have h1:=h n (by omega)
  by_cases e:p=n
  ·subst e
   have:=totS_le2 p fun q hq=>h q (by omega)
   omega
  ·have:=totS_lt2 n (fun q hq=>h q (by omega)) (by omega) hlt
   omega
theorem rows_in {ps:List Pr}{b:Nat->Nat->Bool}{rows:Nat->List Stp}(hR:RowsOk ps b rows){p:Nat}(hp:p<ps.length):∀s ∈ rows p,SpIn ps s:=fun s hs=>by
 obtain⟨h1,h2,h3,_⟩:=(hR p hp).el s hs
 exact⟨by rw[h1];exact hp,h2,by rw[h1];omega⟩
theorem chcL_succ (k:Nat)(rows:Nat->List Stp)(a:Nat->Nat):chcL (k+1) rows a=chcL k rows a ++ [fSp rows k (a k)]:=by unfold chcL;rw[List.range_succ,List.map_append];rfl
theorem last_get (d:List Stp)(x:Stp):((d ++ [x]).map aStp).getD (((d ++ [x]).map aStp).length - 1) .any=aStp x:=by
 rw[List.length_map,List.getD_eq_getElem?_getD,List.getElem?_map]
 simp
theorem last_set (d:List Stp)(x y:Stp):((d ++ [x]).map aStp).set (((d ++ [x]).map aStp).length - 1) (aStp y)=(d ++ [y]).map aStp:=by
 rw[List.length_map,List.map_append,List.map_append]
 simp
theorem events_indexFuncB (l:List Ev)(hl:l.length<=9223372036854775807)(g:AV)(hgf:fo g=(True,g))(p:Ev->Bool)(hg:∀x ∈ l,PV prog g [aEv x] (ab (p x))) :
  PC prog 59 [aEvs l,g] (ai (match l.findIdx? p with|some i=>(i:Int)|none=>-1)):=by
 refine PE 19 [.tmp 4] [] func59 ?_;simp only[go_sem]
 refine Sd ?_
 refine AWp.of ?_;simp only[go_sem,aEvs]
 refine AWp.range1' l.length [] [0,1,7] (fun k vs L=>L=[]/\∀i (h:i<l.length),i<k->p l[i]=false) (by omega) rfl rfl rfl ⟨rfl,by omega⟩ ?_ ?_
 ·rintro k vs L' hk hvs ⟨rfl,hI⟩
  simp only[go_sem]
  refine Sd ?_
  refine Ao ?_
  have hgk:=hg l[k] (List.getElem_mem hk)
  try simp only[go_sem,aEv] at hgk
  refine Sd ?_
  refine AWp.of ?_;simp only[go_sem,getD_map hk,hgf,aEv]
  refine⟨⟨by omega,by omega⟩,hk,hgk.use (AWp.of ?_)⟩;simp only[go_sem]
  refine⟨fun ht=>?_,fun hf=>?_⟩
  ·refine Sd ?_
   refine Ao ?_
   refine Rq ?_
   have:l.findIdx? p=some k:=by rw[List.findIdx?_eq_some_iff_getElem];exact⟨hk,ht,fun j hj=>by simpa using hI j (by omega) hj⟩
   rw[this]
  ·refine⟨[],List.Sublist.refl _,rfl,fun i h hi=>?_⟩
   by_cases e:i=k
   ·subst e;exact hf
   ·exact hI i h (by omega)
 ·rintro vs L' hvs ⟨rfl,hI⟩
  simp only[go_sem]
  refine Sd ?_
  refine Ao ?_
  refine Sd ?_
  refine Ao ?_
  refine Rq ?_
  have:l.findIdx? p=none:=by rw[List.findIdx?_eq_none_iff];intro x hx;obtain⟨i,hi,rfl⟩:=List.getElem_of_mem hx;exact hI i hi hi
  rw[this]
theorem events_containsFuncB (l:List Ev)(hl:l.length<=9223372036854775807)(g:AV)(hgf:fo g=(True,g))(p:Ev->Bool)(hg:∀x ∈ l,PV prog g [aEv x] (ab (p x))) :
  PC prog 24 [aEvs l,g] (ab (l.any p)):=by
 refine PE 9 [.tmp 4] [] func24 ?_;simp only[go_sem]
 refine Sd ?_
 refine AWp.of ?_;simp only[go_sem,hgf,aEvs]
 refine(events_indexFuncB l hl g hgf p hg).val.use ?_
 simp only[go_sem]
 refine Sd ?_
 refine Ao ?_
 refine Rq ?_
 congr 2;exact findIdx_any l p
theorem trace_FaultB (ps:List Pr)(hs:Smh ps)(hb:∃p,p<ps.length/\procF ps p ≠ 0):PC prog 119 [aTr ps] (aFault (faultF ps)):=by
 have hl:=hs.procs
 refine PE 66 [.cell 2 53,.cell 3 37] [1,6,7,10,12] func119 ?_;simp only[go_sem]
 intro b2
 intro b3 h3
 have n23:¬b2=b3:=by omega
 refine Sd ?_
 refine AWp.of ?_;simp only[go_sem,n23]
 refine Sd ?_
 refine(trace_in _ _ _).val.use ?_;simp only[go_sem]
 refine W1 n23 ?_
 constructor<;>intro h1
 ·refine W1 n23 ?_
  have hf:faultF ps=((0,0),1):=by unfold faultF;rw[if_pos (by simp [h1])]
  rw[hf]
  refine ret_eq ?_
  simp only[go_sem,n23]
 ·refine Wk ?_
  refine AWp.range' ps.length [] [1,2,3,22] (fun k vs L=>L=[(b3,.row 37 1 [ai 0] 1),(b2,.row 53 2 [aEid (0,0)] 1)]/\∀j,j<k->procF ps j=0) (by omega) rfl rfl rfl ⟨rfl,by omega⟩ ?_ ?_
  ·rintro k vs L' hk - ⟨rfl,hI⟩
   simp only[go_sem]
   refine Sd ?_
   refine Ao ?_
   refine Wk ?_
   refine Sd ?_
   refine(trace_processFaultH ps hs k hk).val.use ?_;simp only[go_sem]
   refine W1 n23 ?_
   constructor<;>intro h2
   ·refine W1 n23 ?_
    have hf:faultF ps=(((k:Int),0),procF ps k):=by unfold faultF;rw[if_neg (by simp [h1]),procFirst_hit hk hI h2]
    rw[hf]
    refine ret_eq ?_
    simp only[go_sem,n23]
   ·refine⟨_,.refl _,rfl,fun j hj=>?_⟩
    by_cases e:j=k
    ·rw[e];exact h2
    ·exact hI j (by omega)
  ·rintro vs L' - ⟨rfl,hI⟩
   obtain⟨p,hp,h⟩:=hb
   exact absurd (hI p hp) h
theorem ref12_FaultB (ps:List Pr)(hs:Smh ps)(hb:∃p,p<ps.length/\procF ps p ≠ 0):PC prog 31 [aTr ps] (aFault (faultF ps)):=by
 have hl:=hs.procs
 refine PE 137 [.cell 2 53,.tmp 3] [1,11,15] func31 ?_;simp only[go_sem]
 intro b2
 refine Wk ?_
 refine Wk ?_
 constructor<;>intro h1
 ·refine Wk ?_
  have hf:faultF ps=((0,0),1):=by
   unfold faultF
   rw[if_pos]
   unfold inI
   rw[Bool.not_eq_true',<- Bool.not_eq_true,Bool.and_eq_true,decide_eq_true_eq,decide_eq_true_eq]
   omega
  rw[hf]
  refine ret_eq ?_
  simp only[go_sem]
 ·intro h1'
  have hin:¬((!inI ps.length 1 8)=true):=by
   unfold inI
   rw[Bool.not_eq_true',<- Bool.not_eq_true,Bool.and_eq_true,decide_eq_true_eq,decide_eq_true_eq]
   omega
  refine Wk ?_
  refine AWp.block (AWp.count 4 ps.length [] [1,2] (fun k vs L=>L=[(b2,.row 53 2 [aEid (0,0)] 1)]/\∀j,j<k->procF ps j=0) rfl rfl ⟨by simp [aEid],by omega⟩ ?_)
  rintro k vs L hk - ⟨rfl,hI⟩
  simp only[go_sem]
  refine Wk ?_
  constructor<;>intro h2
  ·have hkp:k<ps.length:=by omega
   refine Wk ?_
   refine Sd ?_
   refine(ref12_headH ps hs k hkp).val.use ?_;simp only[go_sem]
   refine Wk ?_
   constructor<;>intro h3
   ·refine Wk ?_
    have hf:faultF ps=(((k:Int),0),procF ps k):=by unfold faultF;rw[if_neg hin,procFirst_hit hkp hI h3]
    rw[hf]
    refine ret_eq ?_
    simp only[go_sem]
   ·refine Wk ?_
    refine⟨_,.refl _,rfl,fun j hj=>?_⟩
    by_cases e:j=k
    ·rw[e];exact h3
    ·exact hI j (by omega)
  ·obtain⟨p,hp,h⟩:=hb
   exact absurd (hI p (by omega)) h
theorem procF_evs {ps:List Pr}{p:Nat}(hp:p<ps.length)(h:64<ps[p].evs.length):procF ps p ≠ 0:=by
 have hpf:procF ps p=if !nameOk ps[p].name || (ps.take p).any (fun y=>decide (y.name=ps[p].name)) then 13 else if 8<ps[p].vars.length then 5 else
   if fstF (varF ps[p].vars) ps[p].vars.length ≠ 0 then fstF (varF ps[p].vars) ps[p].vars.length else if 64<ps[p].evs.length then 5 else 0:=by
  unfold procF;rw[List.getElem?_eq_getElem hp]
 rw[hpf]
 split
 ·decide
 ·split
  ·decide
  ·split
   ·assumption
   ·first|decide|(rw[if_pos h];decide)
theorem valid_bad {ps:List Pr}(hb:∃p,p<ps.length/\procF ps p ≠ 0):validF ps=false:=by
 cases hv:validF ps with
 | false=>rfl
 | true =>
  obtain⟨p,hp,h⟩:=hb
  exact absurd (procF_of_valid hv hp) h
theorem trace_ValidB (ps:List Pr)(hs:Smh ps)(hb:∃p,p<ps.length/\procF ps p ≠ 0):PC prog 71 [aTr ps] (ab (validF ps)):=by
 refine PE 12 [.tmp 2] [1,3] func71 ?_;simp only[go_sem]
 refine Wk ?_
 refine Sd ?_
 refine(trace_FaultB ps hs hb).val.use ?_;simp only[go_sem]
 refine Sd ?_
 intros
 refine Ao ?_
 refine Wk ?_
 refine Rq ?_
 rfl
theorem ref12_ValidB (ps:List Pr)(hs:Smh ps)(hb:∃p,p<ps.length/\procF ps p ≠ 0):PC prog 10 [aTr ps] (ab (validF ps)):=by
 refine PE 12 [.tmp 2] [1,3] func10 ?_;simp only[go_sem]
 refine Wk ?_
 refine Sd ?_
 refine(ref12_FaultB ps hs hb).val.use ?_;simp only[go_sem]
 refine Sd ?_
 intros
 refine Ao ?_
 refine Wk ?_
 refine Rq ?_
 rfl
theorem chn_iff {ps:List Pr} : ∀ {r:List (List Int)} {a:List Int},chnF ps a r=true↔∀j (h:j<r.length),isF ps r[j]=true/\0<=stepF ((a :: r)[j]'(by rw[List.length_cons];omega)) r[j]
 | [],a=>⟨fun _ j h=>absurd h (by simp),fun _=>rfl⟩
 | b :: r,a=>by
  have e:chnF ps a (b :: r)=((isF ps b && decide (0<=stepF a b)) && chnF ps b r):=rfl
  rw[e,Bool.and_eq_true,Bool.and_eq_true,decide_eq_true_eq,chn_iff]
  constructor
  ·rintro⟨h1,h2⟩ j hj
   cases j with
   | zero=>exact h1
   | succ j=>exact h2 j (by simpa using hj)
  ·intro h
   exact⟨h 0 (by simp),fun j hj=>h (j+1) (by simpa using hj)⟩
theorem valid_off {ps:List Pr}(hv:validF ps=true):off ps ps.length<=512:=by
 have h:∀k,k<=ps.length->off ps k<=64 * k:=fun k=>by
  induction k with
  | zero=>intro _;simp [off]
  | succ k ih =>
   intro hk
   have h1:=off_succ (show k<ps.length by omega)
   have h2:=ih (by omega)
   have h3:ps[k].evs.length<=64:=by
    apply Classical.byContradiction
    intro h4
    exact procF_evs (show k<ps.length by omega) (by omega) (procF_of_valid hv (by omega))
   omega
 have:=h ps.length (Nat.le_refl _)
 have:=(valid_len hv).2
 omega
theorem MCalls.toS {P:Program}{f:FuncId}{args:List AV}{K:AV->AHeap->Prop}{S:AV->Prop}(h:MCalls P f args [] K)(hv:∀r L,K r L->∃r0,Vw L r r0/\S r0):MCalls P f args [] fun r L=>L=[]/\S r :=
 ⟨h.1,fun n w A vs hL hr=>(h.2 n w A vs hL hr).mono fun e w' ⟨v,r,L',A',he,hK,hf,hA,hL',hk,hr'⟩=>by
  obtain⟨r',hvw,hS⟩:=hv r L' hK
  exact⟨v,r',[],fun b=>A' b\/keysOf L' b,he,⟨rfl,hS⟩,hf,fun b hb=>hb.elim (hA b) (fun ⟨x,hx,e⟩=>by subst e;exact(hk x hx).elim (fun ⟨y,hy,_⟩=>by cases hy) (fun h=>.inr (.inr h))),hL'.viewed (Lf:=L') (Lk:=[]) (by simp) .nil,(by intro x hx;cases hx),hL'.view (Lf:=L') (Lk:=[]) (by simp) hvw hr'⟩⟩
def mixJ (J c:List Int)(i:Nat):List Int:=J.take i ++ c.drop i
theorem mixJ_len {J c:List Int}(h:J.length=c.length){i:Nat}(hi:i<=c.length):(mixJ J c i).length=c.length:=by unfold mixJ;rw[List.length_append,List.length_take,List.length_drop];omega
theorem mixJ_get {J c:List Int}(h:J.length=c.length){i:Nat}(hi:i<c.length):(mixJ J c i)[i]'(by rw[mixJ_len h (by omega)];exact hi)=c[i]:=by
 unfold mixJ
 rw[List.getElem_append_right (by rw[List.length_take];omega),List.getElem_drop]
 congr 1
 rw[List.length_take];omega
theorem mixJ_set {J c:List Int}(h:J.length=c.length){i:Nat}(hi:i<c.length):(mixJ J c i).set i (J[i]'(by omega))=mixJ J c (i+1):=by
 unfold mixJ
 rw[List.set_append_right _ _ (by rw[List.length_take];omega),List.length_take,show i - min i J.length=0 by omega,<- List.getElem_cons_drop hi,List.set_cons_zero,List.take_succ_eq_append_getElem (by omega),List.append_assoc]
 rfl
theorem mixJ_zero (J c:List Int):mixJ J c 0=c:=by unfold mixJ;simp
theorem mixJ_full {J c:List Int}(h:J.length=c.length):mixJ J c c.length=J:=by unfold mixJ;rw[List.drop_length,List.append_nil,<- h,List.take_length]
theorem tgt_least {α:Type}{bg:α->α->Bool}{len:Nat->Nat}{f:Nat->Nat->α}{n:Nat}(hm:MonB bg len f n){t:Nat->Nat}(ht:Tgt bg len f n t):∀(m:Nat) (a:Nat->Nat),(∀t,Tgt bg len f n t->∀p,p<n->a p<=t p)->totS n (fun p=>t p - a p)<=m->∃a,LeastT bg len f n a:=by
 intro m
 induction m with
 | zero =>
  intro a ha h0
  by_cases hT:Tgt bg len f n a
  ·exact⟨a,hT,ha⟩
  ·exfalso
   obtain⟨p,q,hp,hq,hpq,hb⟩:∃p q,p<n/\q<n/\p ≠ q/\bg (f p (a p)) (f q (a q))=false:=by
    apply Classical.byContradiction
    intro hn
    refine hT ⟨fun p hp=>Nat.lt_of_le_of_lt (ha t ht p hp) (ht.1 p hp),fun p q hp hq hpq=>?_⟩
    cases hb:bg (f p (a p)) (f q (a q)) with
    | true=>rfl
    | false=>exact absurd ⟨p,q,hp,hq,hpq,hb⟩ hn
   have h1:=tgt_step hm ha hp hq hpq hb t ht q hq
   rw[if_pos rfl] at h1
   have h2:totS n (fun _=>0)<totS n (fun p=>t p - a p):=totS_lt2 n (p:=q) (fun _ _=>Nat.zero_le _) hq (by show 0<t q - a q;omega)
   omega
 | succ m ih =>
  intro a ha h0
  by_cases hT:Tgt bg len f n a
  ·exact⟨a,hT,ha⟩
  ·obtain⟨p,q,hp,hq,hpq,hb⟩:∃p q,p<n/\q<n/\p ≠ q/\bg (f p (a p)) (f q (a q))=false:=by
    apply Classical.byContradiction
    intro hn
    refine hT ⟨fun p hp=>Nat.lt_of_le_of_lt (ha t ht p hp) (ht.1 p hp),fun p q hp hq hpq=>?_⟩
    cases hb:bg (f p (a p)) (f q (a q)) with
    | true=>rfl
    | false=>exact absurd ⟨p,q,hp,hq,hpq,hb⟩ hn
   have hs:=tgt_step hm ha hp hq hpq hb
   have h1:=hs t ht q hq
   rw[if_pos rfl] at h1
   refine ih (fun r=>if r=q then a q+1 else a r) hs ?_
   have h2:totS n (fun r=>t r - (if r=q then a q+1 else a r))<totS n (fun p=>t p - a p):=totS_lt2 n (p:=q) (fun r _=>by
    show t r - (if r=q then a q+1 else a r)<=t r - a r
    split
    ·rename_i e;subst e;omega
    ·exact Nat.le_refl _) hq (by show t q - (if q=q then a q+1 else a q)<t q - a q;rw[if_pos rfl];omega)
   omega
theorem least_ex {ps:List Pr}{b:Nat->Nat->Bool}{rows:Nat->List Stp}(hR:RowsOk ps b rows)(h:∃t,TgtS ps rows t):∃a,LeastS ps rows a:=by
 obtain⟨t,ht⟩:=h
 exact tgt_least (mon_rows hR) ht _ (fun _=>0) (fun _ _ _ _=>Nat.zero_le _) (Nat.le_refl _)
theorem ref22_Fits (ps:List Pr)(hs:Sm ps)(c:List Int):PC prog 131 [aTr ps,aInts c] (ab (decide (c.length=ps.length))):=by
 have hl:=hs.procs
 refine PE 11 [.tmp 4] [2] func131 ?_;simp only[go_sem]
 refine Wk ?_
 refine Rq ?_
 congr 2
 simp only[decide_eq_decide];omega
theorem ref22_Range (ps:List Pr)(hs:Sm ps)(c:List Int)(hc:c.length=ps.length):PC prog 132 [aTr ps,aInts c] (ab (inRangeF ps c)):=by
 have hl:=hs.procs
 refine PE 31 [.tmp 4] [2] func132 ?_;simp only[go_sem]
 refine Wk ?_
 refine AWp.block (AWp.count 5 c.length [] [1,2] (fun p vs L=>L=[]/\∀q,q<p->cntOk ps c q=true) rfl rfl ⟨rfl,by omega⟩ ?_)
 rintro p vs L hp - ⟨rfl,hI⟩
 simp only[go_sem]
 refine Wk ?_
 constructor<;>intro h2
 ·have hpc:p<c.length:=by omega
  have hpp:p<ps.length:=by omega
  have hco:=cntOk_get hpp hpc
  have hgP:=getD_map (f:=aPr) hpp
  have hgc:=getD_map (f:=ai) hpc
  refine AWp.seq (AWp.block (AWp.seq ?_))
  refine AWp.drawn mixed 19 (by kernel_rfl) ?_;simp only[go_sem,hgP,hgc]
  refine Sd ?_
  refine Wk ?_
  constructor<;>intro h3
  ·refine Wk ?_
   refine Rq ?_
   have:inRangeF ps c=false:=by
    unfold inRangeF
    rw[List.all_eq_false]
    refine⟨p,List.mem_range.2 hpc,?_⟩
    rw[hco]
    simp only[Bool.and_eq_true,decide_eq_true_eq]
    omega
   rw[this]
  ·intro h4
   refine Wk ?_
   refine⟨_,.refl _,rfl,fun q hq=>?_⟩
   by_cases e:q=p
   ·subst e;rw[hco];simp only[Bool.and_eq_true,decide_eq_true_eq];omega
   ·exact hI q (by omega)
 ·refine Wk ?_
  refine Rq ?_
  have:inRangeF ps c=true:=by
   unfold inRangeF
   rw[List.all_eq_true]
   exact fun q hq=>hI q (by have:=List.mem_range.1 hq;omega)
  rw[this]
theorem ref22_closed (ps:List Pr)(hs:Sm ps)(hv:validF ps=true)(c:List Int)(hc:c.length=ps.length)(hr:inRangeF ps c=true):PC prog 133 [aTr ps,aInts c] (ab (closedF ps c)):=by
 obtain⟨hl1,hl8⟩:=valid_len hv
 have hl:=hs.procs
 refine PE 27 [.tmp 4] [2] func133 ?_;simp only[go_sem]
 refine Wk ?_
 refine AWp.block (AWp.count 5 c.length [] [1,2] (fun p vs L=>L=[]/\Ahead ps (fun q j=>badEv ps c (((q:Int),(j:Int)+1),evq ps q j)=false) p 0) rfl rfl ⟨rfl,fun _ _ _ h=>by omega,fun j hj=>by omega⟩ ?_)
 rintro p vs L hp - ⟨rfl,hA⟩
 simp only[go_sem]
 refine Wk ?_
 constructor<;>intro h1
 ·have hpc:p<c.length:=by omega
  have hpp:p<ps.length:=by omega
  have hgc:=getD_map (f:=ai) hpc
  have hel:=hs.evs _ (List.getElem_mem hpp)
  obtain⟨hr1,hr2⟩:=inRangeF_get hr hc hpp
  refine Wk ?_
  refine AWp.block (AWp.count 6 c[p].toNat [] [1,2,5] (fun i vs L=>L=[]/\Ahead ps (fun q j=>badEv ps c (((q:Int),(j:Int)+1),evq ps q j)=false) p i) rfl rfl ⟨rfl,hA⟩ ?_)
  rintro i vs L hi - ⟨rfl,hB⟩
  simp only[go_sem]
  refine W1 hgc ?_
  constructor<;>intro h2
  ·have hie:i<ps[p].evs.length:=by omega
   have hsn:=ref22_Sent ps hs hv c hc p hpp i hie (by rw[cAt_nat hpc];omega)
   have hev:=evIds_get hpp hie
   have hq0:=evq_get hpp hie
   rw[<- hq0] at hsn hev
   refine Wk ?_
   refine Sd ?_
   refine Vu hsn ?_
   cases hb:badEv ps c (((p:Int),(i:Int)+1),evq ps p i) with
   | true =>
    refine Wk ?_
    refine Rq ?_
    unfold closedF
    have:(evIds ps).any (badEv ps c)=true:=List.any_eq_true.2 ⟨_,List.mem_of_getElem? hev,hb⟩
    rw[this];rfl
   | false =>
    refine Wk ?_
    exact⟨_,.refl _,rfl,hB.next hb⟩
  ·refine Wk ?_
   refine⟨_,.refl _,rfl,Ahead.row hpp ⟨hB.1,fun j hj=>?_⟩⟩
   by_cases e:j<i
   ·exact hB.2 j e
   ·simp only[badEv,cAt_nat hpc,decide_eq_false (show ¬(j:Int)+1<=c[p] by omega),Bool.and_false,Bool.false_and]
 ·refine Wk ?_
  refine Rq ?_
  unfold closedF
  have:(evIds ps).any (badEv ps c)=false:=by
   rw[List.any_eq_false]
   intro x hx
   obtain⟨k,hk⟩:=List.getElem?_of_mem hx
   obtain⟨q,hq,j,hj,_,rfl⟩:=evIds_inv hk
   have:=hA.1 q hq j (by omega) hj
   dsimp only at this
   rw[evq_get hq hj] at this
   rw[this];decide
  rw[this];rfl
theorem ref22_Consistent (ps:List Pr)(hs:Sm ps)(hv:validF ps=true)(c:List Int):PC prog 80 [aTr ps,aInts c] (ab (isF ps c)):=by
 have h0:=ref12_Valid ps hs
 have h1:=ref22_Fits ps hs c
 have h2:=fun h=>ref22_Range ps hs c h
 have h3:=fun h1 h2=>ref22_closed ps hs hv c h1 h2
 rw[hv] at h0
 unfold isF
 generalize closedF ps c=B at *
 refine PE 22 [.tmp 4] [2] func80 ?_;simp only[go_sem]
 refine Wk ?_
 refine Sd ?_
 refine Vu h0 ?_
 refine Sd ?_
 refine GCall.use (ab (decide (c.length=ps.length))) (fun _=>⟨At,(h1).val.use ⟨rfl,rfl⟩⟩) ?_;simp only[go_sem]
 refine Sd ?_
 refine GCall.use (ab (inRangeF ps c)) ?_ ?_
 ·intro g;exact⟨At,(h2 (by simpa using g)).val.use ⟨rfl,rfl⟩⟩
 simp only[go_sem]
 refine Sd ?_
 refine GCall.use (ab B) ?_ ?_
 ·intro g;exact⟨At,(h3 (by simpa using g.1) (by simpa using g.2)).val.use ⟨rfl,rfl⟩⟩
 simp only[go_sem]
 refine Wk ?_
 exact Rz
def asg12 (e:Ev):Bool:=decide (12<(e.asg.length:Int))
def smP (x:Pr):Bool:=!(decide (12<(x.vars.length:Int)) || x.evs.any asg12)
def smW (ps:List Pr):Nat->Int
 | 0=>0
 | k+1=>addW (smW ps k) (nev ps k)
def smF (ps:List Pr)(m:Int):Bool:=decide (ps.length<=10) && (ps.all smP && decide (smW ps ps.length<=m))
theorem smF_cases {ps:List Pr}{m:Int}(h:smF ps m=true):Sm ps\/(Smh ps/\∃p,p<ps.length/\procF ps p ≠ 0):=by
 unfold smF at h
 rw[Bool.and_eq_true,Bool.and_eq_true,decide_eq_true_eq,List.all_eq_true] at h
 obtain⟨h1,h2,_⟩:=h
 have h3:∀p ∈ ps,p.vars.length<=12/\∀e ∈ p.evs,e.asg.length<=12:=fun p hp=>by
  have:=h2 p hp
  unfold smP at this
  rw[Bool.not_eq_true',Bool.or_eq_false_iff,decide_eq_false_iff_not,List.any_eq_false] at this
  refine⟨by omega,fun e he=>?_⟩
  have:=this.2 e he
  unfold asg12 at this
  simp at this
  omega
 by_cases hb:∃p,∃h:p<ps.length,64<ps[p].evs.length
 ·obtain⟨p,hp,hb⟩:=hb
  exact .inr ⟨⟨by omega,fun p hp=>by have:=(h3 p hp).1;omega⟩,p,hp,procF_evs hp hb⟩
 ·refine .inl ⟨by omega,fun p hp=>?_,fun p hp=>by have:=(h3 p hp).1;omega,fun p hp e he=>by have:=(h3 p hp).2 e he;omega⟩
  obtain⟨i,hi,rfl⟩:=List.getElem_of_mem hp
  apply Classical.byContradiction
  intro h4
  exact hb ⟨i,hi,by omega⟩
theorem smW_in (ps:List Pr):∀k,-9223372036854775808<=smW ps k/\smW ps k<=9223372036854775807
 | 0=>by show -9223372036854775808<=(0:Int)/\(0:Int)<=9223372036854775807;omega
 | k+1=>by
  show -9223372036854775808<=addW (smW ps k) (nev ps k)/\addW (smW ps k) (nev ps k)<=9223372036854775807
  unfold addW
  rw[IntKind.wrap_i64]
  omega
section
variable {ps:List Pr} (hva:PC prog 71 [aTr ps] (ab false))
include hva
end
structure Vd (ps:List Pr):Prop where
 val:PC prog 71 [aTr ps] (ab (validF ps))
 rval:PC prog 10 [aTr ps] (ab (validF ps))
 sm:validF ps=true->Sm ps
 big:Sm ps\/validF ps=false
theorem vd_of {ps:List Pr}{m:Int}(h:smF ps m=true):Vd ps:=by
 rcases smF_cases h with h|⟨h,hb⟩
 ·exact⟨trace_Valid ps h,ref12_Valid ps h,fun _=>h,.inl h⟩
 ·exact⟨trace_ValidB ps h hb,ref12_ValidB ps h hb,fun hv=>absurd hv (by rw[valid_bad hb];simp),.inr (valid_bad hb)⟩
mutual
def hugeF:Pd->Int->Int->Int
 | .mk _ _ _ _ _ l,d,c=>hugeL l (d+1) (if 40<d then 1000 else c+1)
def hugeL:List Pd->Int->Int->Int
 | [],_,c=>c
 | x :: r,d,c=>if c<=300 then hugeL r d (hugeF x d c) else c
end
theorem AWp.slLen {C:Cfg}{Q:AQ}{ρ:Env}{L:AHeap}{c:Code}{k j:Nat}{xs:List AV}(hj:get ρ j = .sl k xs)(h:xs.length<=9223372036854775807->AWp C c Q ρ L):AWp C c Q ρ L:=fun hok n w0 M A0 a w hs=>by
 obtain⟨A,ds,hs'⟩:=st_iff.1 hs
 have hr:=hs'.env j
 rw[hj] at hr
 have hle:xs.length<=9223372036854775807:=by
  have hm:maxLen=9223372036854775807:=rfl
  rcases hr.inv_sl with ⟨rfl,_⟩|⟨b,off,cap,_,_,h1,h2,_⟩
  ·exact Nat.zero_le _
  ·omega
 exact h hle hok n w0 M A0 a w hs
mutual
def nodF:Pd->Int->Int->Int
 | .mk _ _ _ _ _ l,m,d=>if 40<d then m else nodL l m d 1
def nodL:List Pd->Int->Int->Int->Int
 | [],_,_,n=>n
 | x :: r,m,d,n=>if m<=n+nodF x (m - n) (d+1) then m else nodL r m d (n+nodF x (m - n) (d+1))
end
end Go.AL
end
