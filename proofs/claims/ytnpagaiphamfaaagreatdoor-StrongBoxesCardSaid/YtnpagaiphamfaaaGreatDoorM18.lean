/- Texts of this claim's proof: WV7, WXp, WV6, WU1. No condition. -/
import Derived.Test.YtnpagaiphamfaaaGreatDoorM17
import Derived.Test.YtnpagaiphamfaaaGreatDoorM7
import Derived.Test.YtnpagaiphamfaaaGreatDoorM14
import Derived.Test.YtnpagaiphamfaaaGreatDoorM9
import Derived.Test.YtnpagaiphamfaaaGreatDoorM16
section
namespace Go.AL
open Go Go.RowKit
set_option maxRecDepth 4000
def aRowsS (ps:List Pr) (n:Nat) (rows:Nat→List Stp):AV:=.sl 1 ((List.range n).map fun p=>aStrs ps (rows p))
noncomputable def aTight (ps:List Pr) (rows:Nat→List Stp):AV:=match tgtO ps rows with
 | some a => .tup [aStrs ps (chcL ps.length rows a),ab true]
 | none => .tup [aStrs ps [],ab false]
theorem aTight_some {ps:List Pr} {rows:Nat→List Stp} {a:Nat→Nat} (h:LeastS ps rows a):aTight ps rows = .tup [aStrs ps (chcL ps.length rows a),ab true]:=by
 obtain⟨a',h1,h2⟩:=tgtO_some h
 unfold aTight
 rw[h1];dsimp only;rw[chcL_congr h2]
theorem aTight_none {ps:List Pr} {rows:Nat→List Stp} (h:¬ ∃t,TgtS ps rows t):aTight ps rows = .tup [aStrs ps [],ab false]:=by
 unfold aTight;rw[tgtO_none h]
theorem rows_in {ps:List Pr} {b:Nat→Nat→Bool} {rows:Nat→List Stp} (hR:RowsOk ps b rows) {p:Nat} (hp:p<ps.length):∀s ∈ rows p,SpIn ps s:=fun s hs=>by
 obtain⟨h1,h2,h3,_⟩:=(hR p hp).el s hs
 exact⟨by rw[h1];exact hp,h2,by rw[h1];omega⟩
theorem chcL_in {ps:List Pr} {b:Nat→Nat→Bool} {rows:Nat→List Stp} (hR:RowsOk ps b rows) {n:Nat} (hn:n≤ps.length) {a:Nat→Nat} (ha:∀p,p<n→a p<(rows p).length):∀s ∈ chcL n rows a,SpIn ps s:=fun s hs=>by
 obtain⟨p,hp,rfl⟩:=List.mem_map.1 hs
 have hp:=List.mem_range.1 hp
 rw[fSp_eq (ha p hp)]
 exact rows_in hR (by omega) _ (List.getElem_mem _)
theorem chcL_succ (k:Nat) (rows:Nat→List Stp) (a:Nat→Nat):chcL (k+1) rows a=chcL k rows a ++ [fSp rows k (a k)]:=by unfold chcL;rw[List.range_succ,List.map_append];rfl
set_option maxHeartbeats 1000000 in
theorem strong_tight (ps:List Pr) (hs:Sm ps) (hv:validF ps=true) {b:Nat→Nat→Bool} {rows:Nat→List Stp} (hR:RowsOk ps b rows) (hlen:∀p,p<ps.length→(rows p).length≤1000000) :
  PC Proofs.Tryz.prog 51 [aRowsS ps ps.length rows] (aTight ps rows):=by
 obtain⟨hl1,hl8⟩:=valid_len hv
 have hmon:=mon_rows hR
 have hT1:=fun a h=>aTight_some (ps:=ps) (rows:=rows) (a:=a) h
 have hT2:=fun h=>aTight_none (ps:=ps) (rows:=rows) h
 have hin:=fun a ha=>chcL_in hR (Nat.le_refl ps.length) (a:=a) ha
 have hA:∀l,aStrs ps l = .sl 4 (l.map (aStr ps)):=fun _=>rfl
 obtain⟨RS,hRS⟩:∃RS,RS=(List.range ps.length).map fun p=>aStrs ps (rows p):=⟨_,rfl⟩
 have hRl:RS.length=ps.length:=by rw[hRS];simp
 have hRg:∀p,p<ps.length→RS.getD p .any = .sl 4 ((rows p).map (aStr ps)):=fun p hp=>by rw[hRS];exact map_range_getD hp _
 have hR0:aRowsS ps ps.length rows = .sl 1 RS:=by rw[hRS];rfl
 have hcl:=fun l hl hin=>strong_clash ps hs hv l hl hin (.v (.func (.func 71) #[] #[])) rfl (fun _=>true) (fun s _=>(strong_anyStretch ps s).val)
 rw[hR0]
 clear hR0 hRS
 generalize aTight ps rows=R at *
 refine PC.enter 54 [.tmp 2,.tmp 3] [36] Proofs.Tryz.func51 rfl rfl rfl rfl rfl (by simp) (AWp.of ?_);simp only[go_sem]
 refine W1 hRl ?_
 intro bA
 refine Wk ?_
 refine AWp.block (AWp.loopN [] [0,4] (fun m vs L=>∃a:Nat→Nat,m=totS ps.length (fun p=>(rows p).length - a p)∧L=[(bA,.row 3 1 (dnA ps.length a) ps.length)]∧(∀t,TgtS ps rows t→∀p,p<ps.length→a p≤t p)∧∀p,p<ps.length→a p≤(rows p).length) (totS ps.length fun p=>(rows p).length - 0) ?_ ?_)
 ·refine⟨fun _=>0,rfl,?_,fun _ _ _ _=>Nat.zero_le _,fun _ _=>Nat.zero_le _⟩
  have:dnA ps.length (fun _=>0)=List.replicate ps.length (ai 0):=by unfold dnA;apply List.ext_getElem (by simp);intro i h1 h2;simp
  rw[this]
 rintro m vs L - ⟨a,rfl,rfl,hlow,hle⟩
 have hdl:=dnA_length ps.length a
 simp only[go_sem]
 refine Wk ?_
 refine(AWp.range' ps.length [5] [0,4,14,15] (fun k vs L=>∃v Lq,vs=[v]∧L=Lq ++ [(bA,.row 3 1 (dnA ps.length a) ps.length)]∧AppSt 99 4 ((chcL k rows a).map (aStr ps)) v Lq∧(∀x ∈ Lq,x.1 ≠ bA)∧∀p,p<k→a p<(rows p).length) (by omega) rfl rfl rfl ⟨anil,[],rfl,rfl,.nil,by simp,fun _ h=>by omega⟩ ?_ ?_)
 ·rintro k vs L hk - ⟨v,Lq,rfl,rfl,hAp,hq,hlt⟩
  have gk:=dnA_get hk a
  have gR:=hRg k hk
  have hsu:=congrArg (List.map (aStr ps)) (chcL_succ k rows a)
  rw[List.map_append] at hsu
  have hyl:((chcL k rows a).map (aStr ps)).length=k:=by rw[List.length_map,chcL_len]
  have hfo:=hAp.fo
  have hlk:=hlen k hk
  have hak:=hle k hk
  by_cases he:a k=(rows k).length
  ·have hei:(a k:Int)=((rows k).length:Int):=by omega
   have hno:=tgt_none hlow hk (show (rows k).length≤a k by omega)
   rw[hT2 hno,hA]
   rcases hAp.inv with ⟨e1,rfl,rfl⟩|⟨bq,cap,rfl,rfl⟩
   ·simp only[go_sem,List.nil_append]
    refine W5 gk gR hdl hRl hei ?_
    refine ret_view [] ?_;simp only[go_sem]
    exact .mkTup (Vws.cons (.nil 4) (Vws.refl _))
   ·have nq:=hq (bq,.row 99 4 ((chcL k rows a).map (aStr ps)) cap) (by simp)
    simp only at nq
    have nq1:¬bA=bq:=fun e=>nq e.symm
    simp only[go_sem,List.cons_append,List.nil_append]
    repeat(first|((with_reducible refine AWp.ofC ?_ ?_);exact rfl;simp only[go_sem,gk,gR,hdl,hRl,hei,nq1])|((with_reducible refine an ?_ ?_);exact Au))
    refine ret_view [] ?_;simp only[go_sem]
    exact .mkTup (Vws.cons (.nil 4) (Vws.refl _))
  ·have hei:¬(a k:Int)=((rows k).length:Int):=by omega
   have hak2:a k<(rows k).length:=by omega
   have ge:=getD_map (f:=aStr ps) hak2
   rw[← fSp_eq hak2] at ge
   have hlt2:∀p,p<k+1→a p<(rows p).length:=fun p hp=>by
    by_cases e:p=k
    ·subst e;exact hak2
    ·exact hlt p (by omega)
   have es:[fSp rows k (a k)].map (aStr ps)=[aStr ps (fSp rows k (a k))]:=rfl
   rw[es] at hsu
   generalize hys:(chcL k rows a).map (aStr ps)=ys at *
   generalize fSp rows k (a k)=s at *
   rcases hAp.inv with ⟨e1,rfl,rfl⟩|⟨bq,cap,rfl,rfl⟩
   ·rw[e1] at hsu
    simp only[go_sem,List.nil_append]
    refine W6 gk gR ge hdl hRl hei ?_
    intro b' cap' g8 g9
    have n3:¬b'=bA:=by omega
    have n4:¬bA=b':=by omega
    refine W2 n3 n4 ?_
    refine⟨_,List.Sublist.refl _,.ls b' 4 0 1 cap',[(b',.row 99 4 ((chcL (k+1) rows a).map (aStr ps)) cap')],rfl,?_,?_,?_,hlt2⟩
    ·rw[hsu];rfl
    ·rw[hsu];exact .row _ _ _
    ·intro y hy;simp only[List.mem_singleton] at hy;subst hy;exact n3
   ·have nq:=hq (bq,.row 99 4 ys cap) (by simp)
    simp only at nq
    have nq1:¬bA=bq:=fun e=>nq e.symm
    simp only[go_sem,List.cons_append,List.nil_append]
    repeat(first|((with_reducible refine AWp.ofC ?_ ?_);exact rfl;simp only[go_sem,gk,gR,ge,hdl,hRl,hei,nq,nq1])|((with_reducible refine an ?_ ?_);exact Au))
    intro b' cap' g8 g9
    have n3:¬b'=bA:=by omega
    have n4:¬bA=b':=by omega
    refine W2 n3 n4 ?_
    refine⟨_,List.Sublist.refl _,.ls b' 4 0 (ys.length+1) cap',[(b',.row 99 4 ((chcL (k+1) rows a).map (aStr ps)) cap')],rfl,?_,?_,?_,hlt2⟩
    ·rw[hsu];rfl
    ·rw[hsu];exact AppSt.snoc b' cap' _ rfl
    ·intro y hy;simp only[List.mem_singleton] at hy;subst hy;exact n3
 ·rintro vs L - ⟨v,Lq,rfl,rfl,hAp,hq,hlt⟩
  have hyl:((chcL ps.length rows a).map (aStr ps)).length=ps.length:=by rw[List.length_map,chcL_len]
  have hcl2:=hcl (chcL ps.length rows a) (by rw[chcL_len];omega) (hin a hlt)
  have hA2:aStrs ps (chcL ps.length rows a) = .sl 4 ((chcL ps.length rows a).map (aStr ps)):=rfl
  rcases hAp.inv with ⟨e1,_,_⟩|⟨bq,cap,rfl,rfl⟩
  ·rw[e1] at hyl;simp at hyl;omega
  have nq:=hq (bq,.row 99 4 ((chcL ps.length rows a).map (aStr ps)) cap) (by simp)
  simp only at nq
  have nq1:¬bA=bq:=fun e=>nq e.symm
  simp only[go_sem,List.cons_append,List.nil_append]
  repeat(first|((with_reducible refine AWp.ofC ?_ ?_);exact rfl;simp only[go_sem,chcL_len])|((with_reducible refine an ?_ ?_);exact Au))
  have hvw:∀xs,Vws [(bq,.row 99 4 ((chcL ps.length rows a).map (aStr ps)) cap),(bA,.row 3 1 (dnA ps.length a) ps.length)] (.ls bq 4 0 ps.length cap :: xs) (aStrs ps (chcL ps.length rows a) :: xs):=fun xs=>Vws.cons (Vw.ofLs (if_pos rfl) hyl.symm) (Vws.refl _)
  cases hc:clI ps (fun _=>true) (chcL ps.length rows a) with
  | none =>
   have hcE:aClash ps (fun _=>true) (chcL ps.length rows a) = .tup [ai 0,ai 0,ab false]:=by unfold aClash;rw[hc]
   have htgt:TgtS ps rows a:=⟨fun p hp=>hlt p hp,fun p q hp hq2 hpq=>by
    have:=clI_none hc p q (by rw[chcL_len];exact hp) (by rw[chcL_len];exact hq2) hpq rfl
    rw[chcL_get,chcL_get] at this
    exact this⟩
   rw[hcE] at hcl2
   rw[hT1 a ⟨htgt,hlow⟩,hA2]
   refine(PC.view (hvw _) hcl2 (Own.tup fun x hx=>by
    simp only[List.mem_cons,List.not_mem_nil,or_false] at hx
    rcases hx with rfl|rfl|rfl <;> exact Own.v _) ?_).val
   simp only[go_sem]
   refine W2 nq nq1 ?_
   refine ret_view [true,false] ?_;simp only[go_sem]
   exact .mkTup (Vws.cons (Vw.ofLs (if_pos rfl) hyl.symm) (Vws.refl _))
  | some i =>
   obtain⟨k,hi,hk,hik,_,hb,hcE⟩:=clI_some hc
   rw[chcL_get,chcL_get] at hb
   rw[chcL_len] at hi hk
   have gk:=dnA_get hk a
   have hlow2:=tgt_step hmon hlow hi hk hik hb
   have hset:(dnA ps.length a).set k (ai ((a k:Int)+1))=dnA ps.length (updN a k (a k+1)):=dnA_set (by rw[updN_self];omega) fun q hq=>updN_ne hq
   have hlk:=hlen k hk
   have hak:=hlt k hk
   rw[hcE] at hcl2
   refine(PC.view (hvw _) hcl2 (Own.tup fun x hx=>by
    simp only[List.mem_cons,List.not_mem_nil,or_false] at hx
    rcases hx with rfl|rfl|rfl <;> exact Own.v _) ?_).val
   simp only[go_sem]
   refine W4 nq nq1 gk hdl ?_
   refine⟨[(bA,_)],.cons _ (List.Sublist.refl _),_,?_,updN a k (a k+1),rfl,?_,?_,?_⟩
   ·refine totS_lt2 ps.length (p:=k) (fun q _ => ?_) hk ?_
    ·by_cases e:q=k
     ·subst e;rw[updN_self];omega
     ·rw[updN_ne e];exact Nat.le_refl _
    ·rw[updN_self];omega
   ·rw[hset]
   ·intro t ht p hp
    have:=hlow2 t ht p hp
    unfold updN
    split
    ·rename_i e;rw[if_pos e] at this;omega
    ·rename_i e;rw[if_neg e] at this;omega
   ·intro p hp
    by_cases e:p=k
    ·subst e;rw[updN_self];omega
    ·rw[updN_ne e];exact hle p hp
noncomputable def spansF (ps:List Pr) (p:Nat) (t:Pd):List Stp:=spL (fun k:Nat=>lclT ps p t k) p (nev ps p+1)
noncomputable def aSpansR (ps:List Pr) (p:Int) (t:Pd):AV:=if lclF ps p 0 t=0 then .tup [.sl 3 ((spansF ps p.toNat t).map aStp),ai 0] else .tup [.sl 3 [],ai (lclF ps p 0 t)]
theorem last_get (d:List Stp) (x:Stp):((d ++ [x]).map aStp).getD (((d ++ [x]).map aStp).length - 1) .any=aStp x:=by
 rw[List.length_map,List.getD_eq_getElem?_getD,List.getElem?_map]
 simp
theorem last_set (d:List Stp) (x y:Stp):((d ++ [x]).map aStp).set (((d ++ [x]).map aStp).length - 1) (aStp y)=(d ++ [y]).map aStp:=by
 rw[List.length_map,List.map_append,List.map_append]
 simp
theorem conj_Spans (ps:List Pr) (hs:Sm ps) (p:Int) (t:Pd) (hz:szF t≤1000000):PC Proofs.Tryz.prog 86 [aTr ps,ai p,aPd t] (aSpansR ps p t):=by
 have h1:=evaluate_Truths ps hs p t hz
 have hl:=hs.procs
 unfold aTruths at h1
 unfold aSpansR
 by_cases he:lclF ps p 0 t=0
 ·rw[if_pos he] at h1 ⊢
  have hp0:0≤p:=by
   unfold lclF at he
   split at he
   ·rename_i h;exact absurd he h
   ·split at he
    ·cases he
    ·rename_i h;omega
  obtain⟨i,rfl⟩:∃i:Nat,p=i:=⟨p.toNat,by omega⟩
  rw[Int.toNat_natCast] at h1 ⊢
  obtain⟨_,hp,_,_,_,_⟩:=lcl_ok he
  have hel:=hs.evs _ (List.getElem_mem hp)
  unfold spansF
  rw[nev_get hp]
  rw[truthsF_nat hp,List.map_map] at h1
  obtain⟨b,hbd⟩:∃b:Nat→Bool,b=fun k:Nat=>lclT ps i t k:=⟨_,rfl⟩
  have hT:∀k,k<ps[i].evs.length+1→((List.range (ps[i].evs.length+1)).map (ab ∘ fun (k:Nat)=>lclT ps i t k)).getD k .any=ab (b k):=fun k hk=>by rw[hbd];exact map_range_getD hk _
  have hTl:((List.range (ps[i].evs.length+1)).map (ab ∘ fun (k:Nat)=>lclT ps i t k)).length=ps[i].evs.length+1:=by simp
  generalize (List.range (ps[i].evs.length+1)).map (ab ∘ fun (k:Nat)=>lclT ps i t k)=T at *
  rw[← hbd]
  clear hbd
  obtain⟨k0,n,pp,q,s,l⟩:=t
  simp only[aPd_mk] at *
  refine PC.enter 59 [.tmp 6,.tmp 7] [3,5,35] Proofs.Tryz.func86 rfl rfl rfl rfl rfl (by simp) (AWp.of ?_);simp only[go_sem]
  refine Wk ?_
  refine Sd ?_
  refine(h1).val.use ?_;simp only[go_sem]
  refine Wk ?_
  refine AWp.range' T.length [10] [1,8,23,24] (fun k vs L=>∃v,vs=[v]∧AppSt 51 3 ((spL b i k).map aStp) v L) (by omega) rfl rfl rfl ⟨anil,rfl,.nil⟩ ?_ ?_
  ·rintro k vs L' hk - ⟨v,rfl,hA⟩
   have g0:=hT k (by omega)
   have g1:=hT (k - 1) (by omega)
   have gk:((k:Int) - 1).toNat=k - 1:=by omega
   have hfo:=hA.fo
   cases hbk:b k with
   | false =>
    rw[hbk] at g0
    rw[spL_no hbk]
    simp only[go_sem]
    refine W3 g0 hTl hfo ?_
    exact⟨_,List.Sublist.refl _,v,rfl,hA⟩
   | true =>
    rw[hbk] at g0
    simp only[go_sem]
    refine W5 g0 g1 gk hTl hfo ?_
    refine⟨fun h2 h3 => ?_,fun h2 => ?_⟩
    ·obtain⟨d,f,e1,e2⟩:=spL_on (b:=b) (p:=i) (k:=k) hbk (by rw[decide_eq_true (by omega),h3];rfl)
     rw[e1] at hA
     rw[e2]
     have gl:((d ++ [(i,f,k - 1)]).map aStp).getD (((d ++ [(i,f,k - 1)]).map aStp).length - 1) .any = .agg [ai i,ai f,ai ((k - 1:Nat):Int)]:=last_get d (i,f,k - 1)
     have gs:((d ++ [(i,f,k - 1)]).map aStp).set (((d ++ [(i,f,k - 1)]).map aStp).length - 1) (.agg [ai i,ai f,ai k])=(d ++ [(i,f,k)]).map aStp:=last_set d (i,f,k - 1) (i,f,k)
     have hyl:1≤((d ++ [(i,f,k - 1)]).map aStp).length:=by simp
     have hyk:=spL_len (b:=b) (p:=i) k
     rw[e1,← List.length_map (f:=aStp)] at hyk
     have hll:((d ++ [(i,f,k)]).map aStp).length=((d ++ [(i,f,k - 1)]).map aStp).length:=by simp
     generalize ((d ++ [(i,f,k - 1)]).map aStp)=ys at *
     generalize ((d ++ [(i,f,k)]).map aStp)=zs at *
     have gn:((ys.length:Int) - 1).toNat=ys.length - 1:=by omega
     rcases hA.inv with ⟨e3,_,_⟩|⟨bq,cap,rfl,rfl⟩
     ·rw[e3] at hyl;simp at hyl
     ·refine Wk ?_
      simp only[go_sem,gl,gn,gs]
      refine Sd ?_
      refine⟨_,List.Sublist.refl _,_,rfl,?_⟩
      rw[← hll]
      exact .row _ _ _
    ·have e0:(decide (0<k) && b (k - 1))=false:=by
      by_cases h3:0<k
      ·rw[decide_eq_true h3,Bool.true_and];simpa using h2 (by omega)
      ·rw[decide_eq_false h3];rfl
     rw[spL_new hbk e0,List.map_append]
     have ea:[(i,k,k)].map aStp=[.agg [ai i,ai k,ai k]]:=rfl
     rw[ea]
     have hyl:=spL_len (b:=b) (p:=i) k
     rw[← List.length_map (f:=aStp)] at hyl
     generalize (spL b i k).map aStp=ys at *
     rcases hA.inv with ⟨e3,rfl,rfl⟩|⟨bq,cap,rfl,rfl⟩
     ·subst e3
      simp only[go_sem]
      refine Sd ?_
      intro b' cap' _
      refine⟨_,List.Sublist.refl _,_,rfl,?_⟩
      exact .row _ _ _
     ·simp only[go_sem]
      refine Sd ?_
      intro b' cap' _
      refine⟨_,List.Sublist.refl _,_,rfl,?_⟩
      have:=AppSt.row (t:=51) (k:=3) b' (ys ++ [.agg [ai i,ai k,ai k]]) cap'
      simpa using this
  ·rintro vs L' - ⟨v,rfl,hA⟩
   rw[hTl] at hA
   have hfo:=hA.fo
   rcases hA.inv with ⟨e3,rfl,rfl⟩|⟨bq,cap,rfl,rfl⟩
   ·simp only[go_sem]
    refine Wk ?_
    refine ret_view [] ?_;simp only[go_sem]
    rw[e3]
    exact .mkTup (Vws.cons (.nil 3) (Vws.refl _))
   ·simp only[go_sem]
    refine Wk ?_
    refine ret_view [true] ?_;simp only[go_sem]
    exact .mkTup (Vws.cons (Vw.ofLs (if_pos rfl) (List.length_map _).symm) (Vws.refl _))
 ·rw[if_neg he] at h1 ⊢
  generalize lclF ps p 0 t=e at *
  obtain⟨k0,n,pp,q,s,l⟩:=t
  simp only[aPd_mk] at *
  refine PC.enter 59 [.tmp 6,.tmp 7] [3,5,35] Proofs.Tryz.func86 rfl rfl rfl rfl rfl (by simp) (AWp.of ?_);simp only[go_sem]
  refine Wk ?_
  refine Sd ?_
  refine(h1).val.use ?_;simp only[go_sem]
  refine W1 he ?_
  refine ret_view [] ?_;simp only[go_sem]
  exact .mkTup (Vws.cons (.nil 3) (Vws.refl _))
def badSp (ps:List Pr) (s:Spn3):Bool:=decide (s.1<0) || (decide ((ps.length:Int)≤s.1) || (decide (s.2.1<0) || (decide (s.2.2<s.2.1) || decide ((nev ps s.1.toNat:Int)<s.2.2))))
def dupSp (l:List Spn3) (i:Nat):Bool:=(l.take i).any fun x=>decide (x.1=(l.getD i (0,0,0)).1)
noncomputable def gvnE (ps:List Pr) (l:List Spn3):Int:=if validF ps=true then (if 1000<l.length then 5 else if l.any (badSp ps)=true then 2 else if (List.range l.length).any (dupSp l)=true then 8 else 0) else 1
def spN (s:Spn3):Stp:=(s.1.toNat,s.2.1.toNat,s.2.2.toNat)
theorem bad_not {ps:List Pr} {s:Spn3} (h:badSp ps s=false):SpIn ps (spN s)∧aSp s=aStp (spN s)∧s=stpI (spN s):=by
 obtain⟨p,f,t⟩:=s
 unfold badSp at h
 simp only[Bool.or_eq_false_iff,decide_eq_false_iff_not] at h
 obtain⟨h1,h2,h3,h4,h5⟩:=h
 have e1:((p.toNat:Nat):Int)=p:=by omega
 have e2:((f.toNat:Nat):Int)=f:=by omega
 have e3:((t.toNat:Nat):Int)=t:=by omega
 refine⟨⟨show p.toNat<ps.length by omega,show f.toNat≤t.toNat by omega,show t.toNat≤nev ps p.toNat by omega⟩,?_,?_⟩
 ·show AV.agg [ai p,ai f,ai t] = .agg [ai ((p.toNat:Nat):Int),ai ((f.toNat:Nat):Int),ai ((t.toNat:Nat):Int)]
  rw[e1,e2,e3]
 ·show (p,f,t)=(((p.toNat:Nat):Int),((f.toNat:Nat):Int),((t.toNat:Nat):Int))
  rw[e1,e2,e3]
theorem gvn_zero {ps:List Pr} {l:List Spn3} (h:gvnE ps l=0):validF ps=true∧l.length≤1000∧(∀s ∈ l,badSp ps s=false)∧∀i,i<l.length→dupSp l i=false:=by
 unfold gvnE at h
 split at h
 ·rename_i hv
  split at h
  ·cases h
  ·rename_i h1
   split at h
   ·cases h
   ·rename_i h2
    split at h
    ·cases h
    ·rename_i h3
     rw[Bool.not_eq_true,List.any_eq_false] at h2 h3
     exact⟨hv,by omega,fun s hs=>by simpa using h2 s hs,fun i hi=>by simpa using h3 i (List.mem_range.2 hi)⟩
 ·cases h
theorem strong_given1 (x s:Spn3):PC Proofs.Tryz.prog 114 [aSp x,.rp 3 [aSp s] 0 0] (ab (decide (x.1=s.1))):=by
 obtain⟨a,b,c⟩:=x
 obtain⟨d,e,f⟩:=s
 have h1:aSp (a,b,c) = .agg [ai a,ai b,ai c]:=rfl
 have h2:aSp (d,e,f) = .agg [ai d,ai e,ai f]:=rfl
 rw[h1,h2]
 refine PC.enter 9 [.tmp 3] [2] Proofs.Tryz.func114 rfl rfl rfl rfl rfl (by simp) (AWp.of ?_);simp only[go_sem]
 refine Wk ?_
 refine ret_eq ?_;simp only[go_sem]
theorem strong_given (ps:List Pr) (hs:Sm ps) (l:List Spn3) (hl:l.length≤9223372036854775806):PC Proofs.Tryz.prog 68 [aTr ps,aSps l] (ai (gvnE ps l)):=by
 have h1:=trace_Valid ps hs
 have hpl:=hs.procs
 have hR:aSps l = .sl 3 (l.map aSp):=rfl
 rw[hR]
 cases hv:validF ps with
 | false =>
  have hE:gvnE ps l=1:=by unfold gvnE;rw[hv];rfl
  rw[hv] at h1
  rw[hE]
  refine PC.enter 69 [.tmp 4] [2,6,8] Proofs.Tryz.func68 rfl rfl rfl rfl rfl (by simp) (AWp.of ?_);simp only[go_sem]
  refine Wk ?_
  refine Sd ?_
  refine(h1).val.use ?_;simp only[go_sem]
  refine Wk ?_
  refine ret_eq ?_;simp only[go_sem]
 | true =>
  rw[hv] at h1
  have hE0:gvnE ps l=if 1000<l.length then 5 else if l.any (badSp ps)=true then 2 else if (List.range l.length).any (dupSp l)=true then 8 else 0:=by unfold gvnE;rw[hv,if_pos rfl]
  by_cases hlen:1000<l.length
  ·have hli:(1000:Int)<(l.length:Int):=by omega
   rw[hE0,if_pos hlen]
   refine PC.enter 69 [.tmp 4] [2,6,8] Proofs.Tryz.func68 rfl rfl rfl rfl rfl (by simp) (AWp.of ?_);simp only[go_sem]
   refine Wk ?_
   refine Sd ?_
   refine(h1).val.use ?_;simp only[go_sem]
   refine W1 hli ?_
   refine ret_eq ?_;simp only[go_sem]
  ·have hli:¬(1000:Int)<(l.length:Int):=by omega
   rw[if_neg hlen] at hE0
   generalize gvnE ps l=E at *
   refine PC.enter 69 [.tmp 4] [2,6,8] Proofs.Tryz.func68 rfl rfl rfl rfl rfl (by simp) (AWp.of ?_);simp only[go_sem]
   refine Wk ?_
   refine Sd ?_
   refine(h1).val.use ?_;simp only[go_sem]
   refine W1 hli ?_
   refine AWp.range' l.length [] [1,2,17,18] (fun i vs L=>L=[]∧∀j (hj:j<l.length),j<i→badSp ps l[j]=false) (by omega) rfl rfl rfl ⟨rfl,fun _ _ h=>by omega⟩ ?_ ?_
   ·rintro i vs L hi - ⟨rfl,hI⟩
    have hgi:=getD_map (f:=aSp) hi
    have hbad:badSp ps l[i]=true→E=2:=fun h=>by
     rw[hE0,if_pos (List.any_eq_true.2 ⟨_,List.getElem_mem hi,h⟩)]
    have hI2:badSp ps l[i]=false→∀j (hj:j<l.length),j<i+1→badSp ps l[j]=false:=fun h j hj hji=>by
     by_cases e:j=i
     ·subst e;exact h
     ·exact hI j hj (by omega)
    clear hI
    generalize l[i]=s at *
    obtain⟨p,f,t⟩:=s
    have hgi:(l.map aSp).getD i .any = .agg [ai p,ai f,ai t]:=hgi
    have hB:badSp ps (p,f,t)=(decide (p<0) || (decide ((ps.length:Int)≤p) || (decide (f<0) || (decide (t<f) || decide ((nev ps p.toNat:Int)<t))))):=rfl
    have hev:0≤p∧p<ps.length→PC Proofs.Tryz.prog 87 [aTr ps,ai p] (ai (nev ps p.toNat:Nat)):=fun h=>by
     obtain⟨n,rfl⟩:∃n:Nat,p=n:=⟨p.toNat,by omega⟩
     have:=strong_events ps hs n (by omega)
     rw[Int.toNat_natCast];exact this
    generalize nev ps p.toNat=N at *
    simp only[go_sem]
    refine W1 hgi ?_
    intros
    repeat(first|(with_reducible refine AWp.seq ?_)|(with_reducible refine AWp.block ?_))
    refine AWp.read mixed [0,1,2,3,4,5,6,7,8,9,10,11,12,13,14,15,16,17,18,19,20,21,22,23,24,25,26,27,28,29,30,31] (by kernel_rfl) ?_;simp only[go_sem]
    refine Sd ?_
    refine GCall.use (ai (N:Nat)) (fun hg=>⟨At,(hev ?_).val.use ⟨rfl,rfl⟩⟩) ?_
    ·simp at hg
     omega
    simp only[go_sem]
    refine Wk ?_
    refine⟨fun h => ?_,fun h1 h2 h3 h4 h5 => ?_⟩
    ·have hb:badSp ps (p,f,t)=true:=by rw[hB];simp;omega
     rw[hbad hb]
     refine Wk ?_
     refine ret_eq ?_;simp only[go_sem]
    ·have hb:badSp ps (p,f,t)=false:=by rw[hB];simp;omega
     exact⟨_,List.Sublist.refl _,rfl,hI2 hb⟩
   ·rintro vs L - ⟨rfl,hI⟩
    have hnb:¬l.any (badSp ps)=true:=by
     rw[Bool.not_eq_true,List.any_eq_false]
     intro x hx
     obtain⟨j,hj,rfl⟩:=List.getElem_of_mem hx
     rw[hI j hj hj];decide
    rw[if_neg hnb] at hE0
    simp only[go_sem]
    refine Wk ?_
    refine AWp.range' l.length [] [1,56,57] (fun i vs L=>L=[]∧∀j,j<i→dupSp l j=false) (by omega) rfl rfl rfl ⟨rfl,fun _ h=>by omega⟩ ?_ ?_
    ·rintro i vs L hi - ⟨rfl,hJ⟩
     have hgi:=getD_map (f:=aSp) hi
     have hd:dupSp l i=(l.take i).any fun x=>decide (x.1=l[i].1):=by unfold dupSp;rw[List.getD_eq_getElem?_getD,List.getElem?_eq_getElem hi,Option.getD_some]
     have hcf:=spans_containsFuncB (l.take i) (by rw[List.length_take];omega) (.clo 114 [.rp 3 [aSp l[i]] 0 0]) rfl (fun x=>decide (x.1=l[i].1)) fun x _=>(strong_given1 x l[i]).clo
     rw[← hd] at hcf
     have htw:dupSp l i=true→E=8:=fun h=>by
      rw[hE0,if_pos (List.any_eq_true.2 ⟨i,List.mem_range.2 hi,h⟩)]
     have hJ2:dupSp l i=false→∀j,j<i+1→dupSp l j=false:=fun h j hji=>by
      by_cases e:j=i
      ·subst e;exact h
      ·exact hJ j (by omega)
     clear hJ hd
     generalize dupSp l i=D at *
     generalize l[i]=s at *
     obtain⟨p,f,t⟩:=s
     have hgi:(l.map aSp).getD i .any = .agg [ai p,ai f,ai t]:=hgi
     change PC _ _ [_,.clo _ [.rp 3 [.agg [ai p,ai f,ai t]] 0 0]] _ at hcf
     simp only[go_sem]
     refine W1 hgi ?_
     intros
     refine Wk ?_
     refine Sd ?_
     refine Sd ?_
     refine(hcf).val.use ?_;simp only[go_sem]
     cases D with
     | true =>
      rw[htw rfl]
      refine Wk ?_
      refine ret_eq ?_;simp only[go_sem]
     | false =>
      refine Wk ?_
      exact⟨_,List.Sublist.refl _,rfl,hJ2 rfl⟩
    ·rintro vs L - ⟨rfl,hJ⟩
     have hnd:¬(List.range l.length).any (dupSp l)=true:=by
      rw[Bool.not_eq_true,List.any_eq_false]
      intro x hx
      rw[hJ x (List.mem_range.1 hx)];decide
     rw[if_neg hnd] at hE0
     subst hE0
     simp only[go_sem]
     refine Wk ?_
     refine ret_eq ?_;simp only[go_sem]
theorem strong_given_bad {ps:List Pr} (hva:PC Proofs.Tryz.prog 85 [aTr ps] (ab false)) (l:List Spn3):PC Proofs.Tryz.prog 68 [aTr ps,aSps l] (ai 1):=by
 have hR:aSps l = .sl 3 (l.map aSp):=rfl
 rw[hR]
 refine PC.enter 69 [.tmp 4] [2,6,8] Proofs.Tryz.func68 rfl rfl rfl rfl rfl (by simp) (AWp.of ?_);simp only[go_sem]
 refine Wk ?_
 refine Sd ?_
 refine(hva).val.use ?_;simp only[go_sem]
 refine Wk ?_
 refine ret_eq ?_;simp only[go_sem]
theorem strong_all (ps:List Pr) (hs:Sm ps) (hv:validF ps=true) (l:List Stp) (hl:l.length≤1000000) (hin:∀s ∈ l,SpIn ps s):PC Proofs.Tryz.prog 70 [aTr ps,.sl 3 (l.map aStp)] (aStrs ps l):=by
 have hA:aStrs ps l = .sl 4 (l.map (aStr ps)):=rfl
 rw[hA]
 refine PC.enter 22 [.tmp 4] [2,7,18] Proofs.Tryz.func70 rfl rfl rfl rfl rfl (by simp) (AWp.of ?_);simp only[go_sem]
 refine Wk ?_
 refine AWp.range' l.length [5] [2,8,9] (fun k vs L=>∃v,vs=[v]∧AppSt 99 4 ((l.take k).map (aStr ps)) v L) (by omega) rfl rfl rfl ⟨anil,rfl,.nil⟩ ?_ ?_
 ·rintro k vs L hk - ⟨v,rfl,hAp⟩
  have hgk:=getD_map (f:=aStp) hk
  have hms:=strong_measured ps hs hv l[k] (hin _ (List.getElem_mem hk))
  have hfo:=hAp.fo
  have hyl:((l.take k).map (aStr ps)).length=k:=by rw[List.length_map,List.length_take];omega
  rw[List.take_succ_eq_append_getElem hk,List.map_append]
  have ea:[l[k]].map (aStr ps)=[aStr ps l[k]]:=rfl
  rw[ea]
  generalize l[k]=s at *
  obtain⟨p,f,t⟩:=s
  have hgk:(l.map aStp).getD k .any = .agg [ai p,ai f,ai t]:=hgk
  change PC _ _ [_,.agg [ai p,ai f,ai t]] _ at hms
  have hS:aStr ps (p,f,t) = .agg [ai p,ai f,ai t,pastV ps (p,f,t)]:=rfl
  rw[hS] at hms ⊢
  generalize (l.take k).map (aStr ps)=ys at *
  rcases hAp.inv with ⟨e3,rfl,rfl⟩|⟨bq,cap,rfl,rfl⟩
  ·subst e3
   simp only[go_sem]
   refine W1 hgk ?_
   intros
   refine Wk ?_
   refine Sd ?_
   refine(hms).val.use ?_;simp only[go_sem]
   refine Wk ?_
   intro b' cap' _
   exact⟨_,List.Sublist.refl _,_,rfl,.row _ _ _⟩
  ·simp only[go_sem]
   refine W1 hgk ?_
   intros
   refine Wk ?_
   refine Sd ?_
   refine(hms).val.use ?_;simp only[go_sem]
   refine Wk ?_
   intro b' cap' _
   refine⟨_,List.Sublist.refl _,_,rfl,?_⟩
   exact AppSt.snoc b' cap' _ rfl
 ·rintro vs L - ⟨v,rfl,hAp⟩
  rw[List.take_length] at hAp
  have hfo:=hAp.fo
  rcases hAp.inv with ⟨e3,rfl,rfl⟩|⟨bq,cap,rfl,rfl⟩
  ·simp only[go_sem]
   refine Wk ?_
   refine ret_view [] ?_;simp only[go_sem]
   rw[e3]
   exact .nil 4
  ·simp only[go_sem]
   refine Wk ?_
   refine ret_view [true] ?_;simp only[go_sem]
   exact Vw.ofLs (if_pos rfl) (List.length_map _).symm
def ovF (ps:List Pr) (l:List Stp):Bool:=(clI ps (fun _=>true) l).isNone
theorem ov_clash (ps:List Pr) (l:List Stp):∃x y:Int,aClash ps (fun _=>true) l = .tup [ai x,ai y,ab (!ovF ps l)]:=by
 unfold ovF
 cases h:clI ps (fun _=>true) l with
 | none =>
  refine⟨0,0,?_⟩
  unfold aClash;rw[h];rfl
 | some i =>
  obtain⟨k,hi,hk,_,_,_,e⟩:=clI_some h
  exact⟨i,k,e⟩
theorem ov_iff {ps:List Pr} {l:List Stp} : ovF ps l=true↔∀i k (hi:i<l.length) (hk:k<l.length),i ≠ k→bgN ps l[i] l[k]=true:=by
 unfold ovF
 constructor
 ·intro h i k hi hk hik
  rw[Option.isNone_iff_eq_none] at h
  exact clI_none h i k hi hk hik rfl
 ·intro h
  cases h1:clI ps (fun _=>true) l with
  | none=>rfl
  | some i =>
   obtain⟨k,hi,hk,hik,_,hb,_⟩:=clI_some h1
   rw[h i k hi hk hik] at hb;cases hb
theorem spN_len {l:List Spn3} : (l.map spN).length=l.length:=List.length_map _
theorem sps_stp {ps:List Pr} {l:List Spn3} (h:∀s ∈ l,badSp ps s=false):aSps l = .sl 3 ((l.map spN).map aStp)∧∀s ∈ l.map spN,SpIn ps s:=by
 refine⟨?_,fun s hs => ?_⟩
 ·show AV.sl 3 (l.map aSp)=_
  rw[List.map_map]
  congr 1
  exact List.map_congr_left fun s hs=>(bad_not (h s hs)).2.1
 ·obtain⟨x,hx,rfl⟩:=List.mem_map.1 hs
  exact(bad_not (h x hx)).1
theorem strong_Overlap (ps:List Pr) (hs:Sm ps) (l:List Spn3) (hl:l.length≤9223372036854775806):PC Proofs.Tryz.prog 32 [aTr ps,aSps l] (.tup [ab (decide (gvnE ps l=0) && ovF ps (l.map spN)),ai (gvnE ps l)]):=by
 have hg:=strong_given ps hs l hl
 by_cases h0:gvnE ps l=0
 ·obtain⟨hv,hl2,hb,_⟩:=gvn_zero h0
  obtain⟨hR,hin⟩:=sps_stp hb
  have hal:=strong_all ps hs hv (l.map spN) (by rw[spN_len];omega) hin
  have hcl:=strong_clash ps hs hv (l.map spN) (by rw[spN_len];omega) hin (.v (.func (.func 71) #[] #[])) rfl (fun _=>true) (fun s _=>(strong_anyStretch ps s).val)
  obtain⟨x,y,hc⟩:=ov_clash ps (l.map spN)
  rw[hc] at hcl
  rw[hR] at hg ⊢
  rw[h0] at hg ⊢
  have hA:aStrs ps (l.map spN) = .sl 4 ((l.map spN).map (aStr ps)):=rfl
  rw[hA] at hal hcl
  rw[decide_eq_true rfl,Bool.true_and]
  generalize ovF ps (l.map spN)=B at *
  refine PC.enter 26 [.tmp 4,.tmp 5] [2] Proofs.Tryz.func32 rfl rfl rfl rfl rfl (by simp) (AWp.of ?_);simp only[go_sem]
  refine Wk ?_
  refine Sd ?_
  refine(hg).val.use ?_;simp only[go_sem]
  refine Wk ?_
  refine Sd ?_
  refine(hal).val.use ?_;simp only[go_sem]
  refine Sd ?_
  refine(hcl).val.use ?_;simp only[go_sem]
  refine Wk ?_
  refine ret_eq ?_;simp only[go_sem]
 ·rw[decide_eq_false h0,Bool.false_and]
  have hR:aSps l = .sl 3 (l.map aSp):=rfl
  rw[hR] at hg ⊢
  generalize gvnE ps l=E at *
  refine PC.enter 26 [.tmp 4,.tmp 5] [2] Proofs.Tryz.func32 rfl rfl rfl rfl rfl (by simp) (AWp.of ?_);simp only[go_sem]
  refine W1 h0 ?_
  refine Sd ?_
  refine(hg).val.use ?_;simp only[go_sem]
  refine W1 h0 ?_
  refine ret_eq ?_;simp only[go_sem]
theorem strong_Overlap_bad {ps:List Pr} (hva:PC Proofs.Tryz.prog 85 [aTr ps] (ab false)) (l:List Spn3):PC Proofs.Tryz.prog 32 [aTr ps,aSps l] (.tup [ab false,ai 1]):=by
 have hg:=strong_given_bad hva l
 have hR:aSps l = .sl 3 (l.map aSp):=rfl
 rw[hR] at hg ⊢
 refine PC.enter 26 [.tmp 4,.tmp 5] [2] Proofs.Tryz.func32 rfl rfl rfl rfl rfl (by simp) (AWp.of ?_);simp only[go_sem]
 refine Wk ?_
 refine Sd ?_
 refine(hg).val.use ?_;simp only[go_sem]
 repeat(first|((with_reducible refine AWp.ofC ?_ ?_);exact rfl;simp only[go_sem,Int.reduceEq])|((with_reducible refine an ?_ ?_);exact Au))
 refine ret_eq ?_;simp only[go_sem]
theorem events_indexFuncB (l:List Ev) (hl:l.length≤9223372036854775807) (g:AV) (hgf:fo g=(True,g)) (p:Ev→Bool) (hg:∀x ∈ l,PV Proofs.Tryz.prog g [aEv x] (ab (p x))) :
  PC Proofs.Tryz.prog 66 [aEvs l,g] (ai (match l.findIdx? p with|some i=>(i:Int)|none => -1)):=by
 refine PC.enter 19 [.tmp 4] [] Proofs.Tryz.func66 rfl rfl rfl rfl rfl (by simp) (AWp.of ?_);simp only[go_sem]
 refine Sd ?_
 refine AWp.of ?_;simp only[go_sem]
 refine AWp.range1' l.length [] [0,1,7] (fun k vs L=>L=[]∧∀i (h:i<l.length),i<k→p l[i]=false) (by omega) rfl rfl rfl ⟨rfl,by omega⟩ ?_ ?_
 ·rintro k vs L' hk hvs ⟨rfl,hI⟩
  simp only[go_sem]
  refine Sd ?_
  refine AWp.of ?_;simp only[go_sem]
  have hgk:=hg l[k] (List.getElem_mem hk)
  try simp only[go_sem,aEv] at hgk
  refine Sd ?_
  refine AWp.of ?_;simp only[go_sem,getD_map hk,hgf,aEv]
  refine⟨⟨by omega,by omega⟩,hk,hgk.use (AWp.of ?_)⟩;simp only[go_sem]
  refine⟨fun ht => ?_,fun hf => ?_⟩
  ·refine Sd ?_
   refine AWp.of ?_;simp only[go_sem]
   refine ret_eq ?_;simp only[go_sem]
   have:l.findIdx? p=some k:=by rw[List.findIdx?_eq_some_iff_getElem];exact⟨hk,ht,fun j hj=>by simpa using hI j (by omega) hj⟩
   rw[this]
  ·refine⟨[],List.Sublist.refl _,rfl,fun i h hi => ?_⟩
   by_cases e:i=k
   ·subst e;exact hf
   ·exact hI i h (by omega)
 ·rintro vs L' hvs ⟨rfl,hI⟩
  simp only[go_sem]
  refine Sd ?_
  refine AWp.of ?_;simp only[go_sem]
  refine Sd ?_
  refine AWp.of ?_;simp only[go_sem]
  refine ret_eq ?_;simp only[go_sem]
  have:l.findIdx? p=none:=by rw[List.findIdx?_eq_none_iff];intro x hx;obtain⟨i,hi,rfl⟩:=List.getElem_of_mem hx;exact hI i hi hi
  rw[this]
theorem events_containsFuncB (l:List Ev) (hl:l.length≤9223372036854775807) (g:AV) (hgf:fo g=(True,g)) (p:Ev→Bool) (hg:∀x ∈ l,PV Proofs.Tryz.prog g [aEv x] (ab (p x))) :
  PC Proofs.Tryz.prog 28 [aEvs l,g] (ab (l.any p)):=by
 refine PC.enter 9 [.tmp 4] [] Proofs.Tryz.func28 rfl rfl rfl rfl rfl (by simp) (AWp.of ?_);simp only[go_sem]
 refine Sd ?_
 refine AWp.of ?_;simp only[go_sem,hgf]
 refine(events_indexFuncB l hl g hgf p hg).val.use ?_
 simp only[go_sem]
 refine Sd ?_
 refine AWp.of ?_;simp only[go_sem]
 refine ret_eq ?_;simp only[go_sem]
 congr 2;exact findIdx_any l p
theorem trace_FaultB (ps:List Pr) (hs:Smh ps) (hb:∃p,p<ps.length∧procF ps p ≠ 0):PC Proofs.Tryz.prog 132 [aTr ps] (aFault (faultF ps)):=by
 have hl:=hs.procs
 refine PC.enter 66 [.cell 2 104,.cell 3 29] [1,6,7,10,12] Proofs.Tryz.func132 rfl rfl rfl rfl rfl (by simp) (AWp.of ?_);simp only[go_sem]
 intro b2
 intro b3 h3
 have n23:¬b2=b3:=by omega
 refine Sd ?_
 refine AWp.of ?_;simp only[go_sem]
 refine Sd ?_
 refine(trace_in _ _ _).val.use ?_;simp only[go_sem]
 refine W1 n23 ?_
 refine⟨fun h1 => ?_,fun h1 => ?_⟩
 ·refine W1 n23 ?_
  have hf:faultF ps=((0,0),1):=by unfold faultF;rw[if_pos (by simp [h1])]
  rw[hf]
  refine ret_eq ?_
  simp only[go_sem,n23]
 ·refine Wk ?_
  refine AWp.range' ps.length [] [1,2,3,22] (fun k vs L=>L=[(b3,.row 29 1 [ai 0] 1),(b2,.row 104 2 [aEid (0,0)] 1)]∧∀j,j<k→procF ps j=0) (by omega) rfl rfl rfl ⟨rfl,by omega⟩ ?_ ?_
  ·rintro k vs L' hk - ⟨rfl,hI⟩
   simp only[go_sem]
   refine Sd ?_
   refine AWp.of ?_;simp only[go_sem]
   refine Wk ?_
   refine Sd ?_
   refine(trace_processFaultH ps hs k hk).val.use ?_;simp only[go_sem]
   refine W1 n23 ?_
   refine⟨fun h2 => ?_,fun h2 => ?_⟩
   ·refine W1 n23 ?_
    have hf:faultF ps=(((k:Int),0),procF ps k):=by unfold faultF;rw[if_neg (by simp [h1]),procFirst_hit hk hI h2]
    rw[hf]
    refine ret_eq ?_
    simp only[go_sem,n23]
   ·refine⟨_,List.Sublist.refl _,rfl,fun j hj => ?_⟩
    by_cases e:j=k
    ·rw[e];exact h2
    ·exact hI j (by omega)
  ·rintro vs L' - ⟨rfl,hI⟩
   obtain⟨p,hp,h⟩:=hb
   exact absurd (hI p hp) h
theorem ref12_FaultB (ps:List Pr) (hs:Smh ps) (hb:∃p,p<ps.length∧procF ps p ≠ 0):PC Proofs.Tryz.prog 75 [aTr ps] (aFault (faultF ps)):=by
 have hl:=hs.procs
 refine PC.enter 137 [.cell 2 104,.tmp 3] [1,11,15] Proofs.Tryz.func75 rfl rfl rfl rfl rfl (by simp) (AWp.of ?_);simp only[go_sem]
 intro b2
 refine Wk ?_
 refine Wk ?_
 refine⟨fun h1 => ?_,fun h1 => ?_⟩
 ·refine Wk ?_
  have hf:faultF ps=((0,0),1):=by
   unfold faultF
   rw[if_pos]
   unfold inI
   rw[Bool.not_eq_true',← Bool.not_eq_true,Bool.and_eq_true,decide_eq_true_eq,decide_eq_true_eq]
   omega
  rw[hf]
  refine ret_eq ?_
  simp only[go_sem]
 ·intro h1'
  have hin:¬((!inI ps.length 1 8)=true):=by
   unfold inI
   rw[Bool.not_eq_true',← Bool.not_eq_true,Bool.and_eq_true,decide_eq_true_eq,decide_eq_true_eq]
   omega
  refine Wk ?_
  refine AWp.block (AWp.count 4 ps.length [] [1,2] (fun k vs L=>L=[(b2,.row 104 2 [aEid (0,0)] 1)]∧∀j,j<k→procF ps j=0) rfl rfl ⟨by simp [aEid],by omega⟩ ?_)
  rintro k vs L hk - ⟨rfl,hI⟩
  simp only[go_sem]
  refine Wk ?_
  refine⟨fun h2 => ?_,fun h2 => ?_⟩
  ·have hkp:k<ps.length:=by omega
   refine Wk ?_
   refine Sd ?_
   refine(ref12_headH ps hs k hkp).val.use ?_;simp only[go_sem]
   refine Wk ?_
   refine⟨fun h3 => ?_,fun h3 => ?_⟩
   ·refine Wk ?_
    have hf:faultF ps=(((k:Int),0),procF ps k):=by unfold faultF;rw[if_neg hin,procFirst_hit hkp hI h3]
    rw[hf]
    refine ret_eq ?_
    simp only[go_sem]
   ·refine Wk ?_
    refine⟨_,List.Sublist.refl _,rfl,fun j hj => ?_⟩
    by_cases e:j=k
    ·rw[e];exact h3
    ·exact hI j (by omega)
  ·obtain⟨p,hp,h⟩:=hb
   exact absurd (hI p (by omega)) h
theorem procF_evs {ps:List Pr} {p:Nat} (hp:p<ps.length) (h:64<ps[p].evs.length):procF ps p ≠ 0:=by
 have hpf:procF ps p=if !nameOk ps[p].name || (ps.take p).any (fun y=>decide (y.name=ps[p].name)) then 13 else if 8<ps[p].vars.length then 5 else
   if fstF (varF ps[p].vars) ps[p].vars.length ≠ 0 then fstF (varF ps[p].vars) ps[p].vars.length else if 64<ps[p].evs.length then 5 else 0:=by
  unfold procF;rw[List.getElem?_eq_getElem hp]
 rw[hpf]
 split
 ·decide
 ·split
  ·decide
  ·split
   ·assumption
   ·first|decide|(rw[if_pos h];decide)
theorem valid_bad {ps:List Pr} (hb:∃p,p<ps.length∧procF ps p ≠ 0):validF ps=false:=by
 cases hv:validF ps with
 | false=>rfl
 | true =>
  obtain⟨p,hp,h⟩:=hb
  exact absurd (procF_of_valid hv hp) h
theorem trace_ValidB (ps:List Pr) (hs:Smh ps) (hb:∃p,p<ps.length∧procF ps p ≠ 0):PC Proofs.Tryz.prog 85 [aTr ps] (ab (validF ps)):=by
 refine PC.enter 12 [.tmp 2] [1,3] Proofs.Tryz.func85 rfl rfl rfl rfl rfl (by simp) (AWp.of ?_);simp only[go_sem]
 refine Wk ?_
 refine Sd ?_
 refine(trace_FaultB ps hs hb).val.use ?_;simp only[go_sem]
 refine Sd ?_
 intros
 refine AWp.of ?_;simp only[go_sem]
 refine Wk ?_
 refine ret_eq ?_;simp only[go_sem]
 rfl
theorem ref12_ValidB (ps:List Pr) (hs:Smh ps) (hb:∃p,p<ps.length∧procF ps p ≠ 0):PC Proofs.Tryz.prog 39 [aTr ps] (ab (validF ps)):=by
 refine PC.enter 12 [.tmp 2] [1,3] Proofs.Tryz.func39 rfl rfl rfl rfl rfl (by simp) (AWp.of ?_);simp only[go_sem]
 refine Wk ?_
 refine Sd ?_
 refine(ref12_FaultB ps hs hb).val.use ?_;simp only[go_sem]
 refine Sd ?_
 intros
 refine AWp.of ?_;simp only[go_sem]
 refine Wk ?_
 refine ret_eq ?_;simp only[go_sem]
 rfl
end Go.AL
end
