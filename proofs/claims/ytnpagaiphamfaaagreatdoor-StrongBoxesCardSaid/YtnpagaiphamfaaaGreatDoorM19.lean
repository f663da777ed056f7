/- Texts of this claim's proof: WV10, WU3, WU4, WU5, WU6, WV8. No condition. -/
import Derived.Test.YtnpagaiphamfaaaGreatDoorM18
import Derived.Test.YtnpagaiphamfaaaGreatDoorM11
import Derived.Test.YtnpagaiphamfaaaGreatDoorM15
import Derived.Test.YtnpagaiphamfaaaGreatDoorM17
import Derived.Test.YtnpagaiphamfaaaGreatDoorM7
section
namespace Go.AL
open Go Go.RowKit
set_option maxRecDepth 4000
theorem stretches_indexFunc (ps:List Pr) (l:List Stp) (hl:l.length≤1000000) (g:AV) (hgf:fo g=(True,g)) (p:Stp→Bool) (hg:∀x ∈ l,PV Proofs.Tryz.prog g [aStr ps x] (ab (p x))) :
  PC Proofs.Tryz.prog 133 [.sl 4 (l.map (aStr ps)),g] (ai (match l.findIdx? p with|some i=>(i:Int)|none => -1)):=by
 refine PC.enter 19 [.tmp 4] [] Proofs.Tryz.func133 rfl rfl rfl rfl rfl (by simp) (AWp.of ?_);simp only[go_sem]
 refine Wk ?_
 refine AWp.range' l.length [] [0,1,7] (fun k vs L=>L=[]∧∀i (h:i<l.length),i<k→p l[i]=false) (by omega) rfl rfl rfl ⟨rfl,by omega⟩ ?_ ?_
 ·rintro k vs L' hk hvs ⟨rfl,hI⟩
  simp only[go_sem]
  have hgk:=hg l[k] (List.getElem_mem hk)
  simp only[go_sem] at hgk
  have hgl:=getD_map (f:=aStr ps) hk
  refine W2 hgl hgf ?_
  refine Sd ?_
  refine(hgk).use ?_;simp only[go_sem]
  refine Wk ?_
  refine⟨fun ht => ?_,fun hf => ?_⟩
  ·refine Wk ?_
   refine ret_eq ?_;simp only[go_sem]
   have:l.findIdx? p=some k:=by rw[List.findIdx?_eq_some_iff_getElem];exact⟨hk,ht,fun j hj=>by simpa using hI j (by omega) hj⟩
   rw[this]
  ·refine⟨[],List.Sublist.refl _,rfl,fun i h hi => ?_⟩
   by_cases e:i=k
   ·subst e;exact hf
   ·exact hI i h (by omega)
 ·rintro vs L' hvs ⟨rfl,hI⟩
  simp only[go_sem]
  refine Wk ?_
  refine ret_eq ?_;simp only[go_sem]
  have:l.findIdx? p=none:=by rw[List.findIdx?_eq_none_iff];intro x hx;obtain⟨i,hi,rfl⟩:=List.getElem_of_mem hx;exact hI i hi hi
  rw[this]
theorem strong_coming1 (ps:List Pr) (c:List Int) (s:Stp) (p:Nat) (hp:p<c.length):PC Proofs.Tryz.prog 134 [aStr ps s,.rp 1 [aInts c] 0 0,.rp 1 [ai p] 0 0] (ab (decide (cAt c p≤(s.2.2:Int)))):=by
 have hg:=getD_map (f:=ai) hp
 rw[← cAt_nat hp] at hg
 have hR:aStr ps s = .agg [ai s.1,ai s.2.1,ai s.2.2,pastV ps s]:=rfl
 rw[hR]
 refine PC.enter 13 [.tmp 4] [3] Proofs.Tryz.func134 rfl rfl rfl rfl rfl (by simp) (AWp.of ?_);simp only[go_sem]
 refine Wk ?_
 repeat(first|(with_reducible refine AWp.seq ?_)|(with_reducible refine AWp.block ?_))
 refine AWp.read mixed [0,1,2,3,4,5,6,7,8] (by kernel_rfl) ?_;simp only[go_sem,hg]
 refine Sd ?_
 refine Wk ?_
 refine ret_eq ?_;simp only[go_sem]
def cmI (rows:Nat→List Stp) (c:List Int) (p:Nat):Option Nat:=(rows p).findIdx? fun s=>decide (cAt c p≤(s.2.2:Int))
def cmX (rows:Nat→List Stp) (c:List Int) (p:Nat):Nat:=(cmI rows c p).getD 0
def cmB (n:Nat) (rows:Nat→List Stp) (c:List Int):Bool:=(List.range n).all fun p=>(cmI rows c p).isSome
def aComing (ps:List Pr) (rows:Nat→List Stp) (c:List Int):AV:=if cmB ps.length rows c=true then .tup [aStrs ps (chcL ps.length rows (cmX rows c)),ab true] else .tup [aStrs ps [],ab false]
theorem cm_com {ps:List Pr} {rows:Nat→List Stp} {c:List Int} (h:cmB ps.length rows c=true):Com ps rows c (cmX rows c):=by
 have h1:∀p,p<ps.length→∃(hx:cmX rows c p<(rows p).length),cAt c p≤((rows p)[cmX rows c p].2.2:Int)∧∀j (hj:j<cmX rows c p),((rows p)[j]'(by omega)).2.2<cAt c p:=fun p hp=>by
  have h2:=List.all_eq_true.1 h p (List.mem_range.2 hp)
  obtain⟨i,hi⟩:=Option.isSome_iff_exists.1 h2
  have e:cmX rows c p=i:=by unfold cmX;rw[hi];rfl
  unfold cmI at hi
  rw[List.findIdx?_eq_some_iff_getElem] at hi
  obtain⟨a1,a2,a3⟩:=hi
  subst e
  refine⟨a1,of_decide_eq_true a2,fun j hj => ?_⟩
  have:=a3 j hj
  rw[decide_eq_true_eq] at this
  omega
 refine⟨fun p hp=>(h1 p hp).1,fun p hp => ?_,fun p hp j hj => ?_⟩
 ·obtain⟨a1,a2,_⟩:=h1 p hp
  rw[fSp_eq a1];exact a2
 ·obtain⟨a1,_,a3⟩:=h1 p hp
  rw[fSp_eq (show j<(rows p).length by omega)]
  exact a3 j hj
theorem cm_end {n:Nat} {rows:Nat→List Stp} {c:List Int} (h:cmB n rows c=false):∃p,p<n∧∀s ∈ rows p,(s.2.2:Int)<cAt c p:=by
 obtain⟨p,hp,h1⟩:=List.all_eq_false.1 h
 have h2:cmI rows c p=none:=by
  cases h3:cmI rows c p with
  | none=>rfl
  | some i=>rw[h3] at h1;exact absurd rfl h1
 unfold cmI at h2
 rw[List.findIdx?_eq_none_iff] at h2
 refine⟨p,List.mem_range.1 hp,fun s hs => ?_⟩
 have:=of_decide_eq_false (h2 s hs)
 omega
set_option maxHeartbeats 1000000 in
theorem strong_coming (ps:List Pr) (hn:ps.length≤8) (rows:Nat→List Stp) (hlen:∀p,p<ps.length→(rows p).length≤1000000) (c:List Int) (hc:c.length=ps.length) :
  PC Proofs.Tryz.prog 88 [aRowsS ps ps.length rows,aInts c] (aComing ps rows c):=by
 obtain⟨RS,hRS⟩:∃RS,RS=(List.range ps.length).map fun p=>aStrs ps (rows p):=⟨_,rfl⟩
 have hRl:RS.length=ps.length:=by rw[hRS];simp
 have hRg:∀p,p<ps.length→RS.getD p .any = .sl 4 ((rows p).map (aStr ps)):=fun p hp=>by rw[hRS];exact map_range_getD hp _
 have hR0:aRowsS ps ps.length rows = .sl 1 RS:=by rw[hRS];rfl
 have hyes:(∀p,p<ps.length→(cmI rows c p).isSome=true)→aComing ps rows c = .tup [aStrs ps (chcL ps.length rows (cmX rows c)),ab true]:=fun h=>by
  unfold aComing;rw[if_pos (show cmB ps.length rows c=true from List.all_eq_true.2 fun p hp=>h p (List.mem_range.1 hp))]
 have hno:∀p,p<ps.length→cmI rows c p=none→aComing ps rows c = .tup [aStrs ps [],ab false]:=fun p hp h=>by
  unfold aComing;rw[if_neg]
  intro h2
  have:=List.all_eq_true.1 h2 p (List.mem_range.2 hp)
  rw[h] at this;cases this
 have hA:∀l,aStrs ps l = .sl 4 (l.map (aStr ps)):=fun _=>rfl
 have hc1:=fun s p hp=>strong_coming1 ps c s p hp
 rw[hR0]
 clear hR0 hRS
 generalize aComing ps rows c=R at *
 refine PC.enter 31 [.tmp 4,.tmp 5] [3,7,27] Proofs.Tryz.func88 rfl rfl rfl rfl rfl (by simp) (AWp.of ?_);simp only[go_sem]
 refine W1 hRl ?_
 refine(AWp.range' ps.length [6] [3,10,11] (fun k vs L=>∃v,vs=[v]∧AppSt 99 4 ((chcL k rows (cmX rows c)).map (aStr ps)) v L∧∀p,p<k→(cmI rows c p).isSome=true) (by omega) rfl rfl rfl ⟨anil,rfl,.nil,fun _ h=>by omega⟩ ?_ ?_)
 ·rintro k vs L hk - ⟨v,rfl,hAp,hI⟩
  have gR:=hRg k hk
  have hsu:=congrArg (List.map (aStr ps)) (chcL_succ k rows (cmX rows c))
  rw[List.map_append] at hsu
  have hyl:((chcL k rows (cmX rows c)).map (aStr ps)).length=k:=by rw[List.length_map,chcL_len]
  have hfo:=hAp.fo
  have hix:=stretches_indexFunc ps (rows k) (hlen k hk) (.clo 134 [.rp 1 [aInts c] 0 0,.rp 1 [ai k] 0 0]) rfl (fun s=>decide (cAt c k≤(s.2.2:Int))) fun s _=>(hc1 s k (by omega)).clo
  have hcm:(match (rows k).findIdx? (fun s=>decide (cAt c k≤(s.2.2:Int))) with|some i=>(i:Int)|none => -1)=(match cmI rows c k with|some i=>(i:Int)|none => -1):=rfl
  rw[hcm] at hix
  have hnk:=hno k hk
  cases hck:cmI rows c k with
  | none =>
   rw[hck] at hix
   rw[hnk hck,hA]
   have zm:(-1:Int)<0:=by decide
   rcases hAp.inv with ⟨e1,rfl,rfl⟩|⟨bq,cap,rfl,rfl⟩
   ·simp only[go_sem]
    refine W2 gR hRl ?_
    intros
    refine Wk ?_
    refine Sd ?_
    refine(hix).val.use ?_;simp only[go_sem]
    refine W1 zm ?_
    refine ret_view [] ?_;simp only[go_sem]
    exact .mkTup (Vws.cons (.nil 4) (Vws.refl _))
   ·simp only[go_sem]
    refine W2 gR hRl ?_
    intros
    refine Wk ?_
    refine Sd ?_
    refine(hix).val.use ?_;simp only[go_sem]
    refine W1 zm ?_
    refine ret_view [] ?_;simp only[go_sem]
    exact .mkTup (Vws.cons (.nil 4) (Vws.refl _))
  | some i =>
   have hi:i<(rows k).length:=by
    have h2:=hck
    unfold cmI at h2
    rw[List.findIdx?_eq_some_iff_getElem] at h2
    exact h2.1
   have hxk:cmX rows c k=i:=by unfold cmX;rw[hck];rfl
   have ge:=getD_map (f:=aStr ps) hi
   rw[← fSp_eq hi] at ge
   rw[hck] at hix
   rw[hxk] at hsu
   have hlk:=hlen k hk
   have hI2:∀p,p<k+1→(cmI rows c p).isSome=true:=fun p hp=>by
    by_cases e:p=k
    ·subst e;rw[hck];rfl
    ·exact hI p (by omega)
   have z0:¬(i:Int)<0:=by omega
   have es:[fSp rows k i].map (aStr ps)=[aStr ps (fSp rows k i)]:=rfl
   rw[es] at hsu
   generalize (chcL k rows (cmX rows c)).map (aStr ps)=ys at *
   generalize fSp rows k i=s at *
   change PC _ _ _ (ai (i:Int)) at hix
   rcases hAp.inv with ⟨e1,rfl,rfl⟩|⟨bq,cap,rfl,rfl⟩
   ·rw[e1] at hsu
    simp only[go_sem]
    refine W2 gR hRl ?_
    intros
    refine Wk ?_
    refine Sd ?_
    refine(hix).val.use ?_;simp only[go_sem]
    refine W2 z0 ge ?_
    intro b' cap' g8
    exact⟨_,List.Sublist.refl _,_,rfl,by rw[hsu];exact .row _ _ _,hI2⟩
   ·simp only[go_sem]
    refine W2 gR hRl ?_
    intros
    refine Wk ?_
    refine Sd ?_
    refine(hix).val.use ?_;simp only[go_sem]
    refine W2 z0 ge ?_
    intro b' cap' g8
    exact⟨_,List.Sublist.refl _,_,rfl,by rw[hsu];exact AppSt.snoc b' cap' _ rfl,hI2⟩
 ·rintro vs L - ⟨v,rfl,hAp,hI⟩
  have hfo:=hAp.fo
  rw[hyes hI,hA]
  rcases hAp.inv with ⟨e1,rfl,rfl⟩|⟨bq,cap,rfl,rfl⟩
  ·simp only[go_sem]
   refine Wk ?_
   refine ret_view [] ?_;simp only[go_sem]
   rw[e1]
   exact .mkTup (Vws.cons (.nil 4) (Vws.refl _))
  ·simp only[go_sem]
   refine Wk ?_
   refine ret_view [true] ?_;simp only[go_sem]
   exact .mkTup (Vws.cons (Vw.ofLs (if_pos rfl) (List.length_map _).symm) (Vws.refl _))
noncomputable def rowsOf (ps:List Pr) (ts:List Pd) (p:Nat):List Stp:=match ts[p]? with|some t=>spansF ps p t|none=>[]
theorem rowsOf_get {ps:List Pr} {ts:List Pd} {p:Nat} (hp:p<ts.length):rowsOf ps ts p=spansF ps p ts[p]:=by unfold rowsOf;rw[List.getElem?_eq_getElem hp]
theorem rowsOf_ok {ps:List Pr} {ts:List Pd} (h:ts.length=ps.length):RowsOk ps (elimOf ps ts).ok (rowsOf ps ts):=fun p hp=>by
 have hpt:p<ts.length:=by omega
 rw[rowsOf_get hpt]
 have e:(elimOf ps ts).ok p=fun k:Nat=>lclT ps p ts[p] k:=by
  funext k
  show (match ts[p]? with|some t=>lclT ps p t k|none=>true)=_
  rw[List.getElem?_eq_getElem hpt]
 rw[e]
 exact spL_ok _ p (nev ps p+1)
theorem valid_nev {ps:List Pr} (hv:validF ps=true) {p:Nat} (hp:p<ps.length):nev ps p≤64:=by
 rw[nev_get hp]
 apply Classical.byContradiction
 intro h4
 exact procF_evs hp (by omega) (procF_of_valid hv hp)
theorem rowsOf_len {ps:List Pr} (hv:validF ps=true) (ts:List Pd) (p:Nat) (hp:p<ps.length):(rowsOf ps ts p).length≤65:=by
 unfold rowsOf
 split
 ·rename_i t _
  have h1:=spL_len (b:=fun k:Nat=>lclT ps p t k) (p:=p) (nev ps p+1)
  have h2:=valid_nev hv hp
  exact Nat.le_trans h1 (by omega)
 ·simp
theorem stepG_neg {a b:List Int} : ∀ {k:Nat},stepG a b k=none→∀ {m:Nat},stepG a b (k+m)=none
 | k,h,0=>h
 | k,h,m+1=>by
  have e:stepG a b (k+m+1)=match stepG a b (k+m) with
   | none=>none
   | some p=>if cAt a (k+m:Nat)=cAt b (k+m:Nat) then some p else if 0≤p∨¬cAt b (k+m:Nat)=cAt a (k+m:Nat)+1 then none else some (k+m:Nat):=rfl
  show stepG a b (k+m+1)=none
  rw[e,stepG_neg h]
theorem ref24_step (a b:List Int) (ha:Cb a) (_hb:∀z ∈ b,-9223372036854775808≤z∧z≤9223372036854775807):PC Proofs.Tryz.prog 113 [aInts a,aInts b] (ai (stepF a b)):=by
 have hal:=ha.1
 by_cases hl:a.length=b.length
 ·have hli:(a.length:Int)=b.length:=by omega
  have hF:stepF a b=(stepG a b a.length).getD (-1):=by unfold stepF;rw[if_pos hl]
  rw[hF]
  refine PC.enter 43 [.tmp 4] [] Proofs.Tryz.func113 rfl rfl rfl rfl rfl (by simp) (AWp.of ?_);simp only[go_sem]
  refine W1 hli ?_
  refine AWp.block (AWp.count 6 a.length [5] [0,1] (fun k vs L=>L=[]∧∃z,vs=[ai z]∧stepG a b k=some z) rfl rfl ⟨rfl,-1,rfl,rfl⟩ ?_)
  rintro k vs L hk - ⟨rfl,z,rfl,hz⟩
  simp only[go_sem]
  by_cases hka:k<a.length
  ·have hki:(k:Int)<(b.length:Int):=by omega
   have hkb:k<b.length:=by omega
   have ga:=getD_map (f:=ai) hka
   have gb:=getD_map (f:=ai) hkb
   have sa:=ha.2 _ (List.getElem_mem hka)
   have hst:stepG a b (k+1)=if cAt a k=cAt b k then some z else if 0≤z∨¬cAt b k=cAt a k+1 then none else some (k:Int):=by
    show (match stepG a b k with
     | none=>none
     | some p=>if cAt a k=cAt b k then some p else if 0≤p∨¬cAt b k=cAt a k+1 then none else some (k:Int))=_
    rw[hz]
   rw[cAt_nat hka,cAt_nat hkb] at hst
   refine W2 hki hli ?_
   repeat(first|(with_reducible refine AWp.seq ?_)|(with_reducible refine AWp.block ?_))
   refine AWp.read mixed [0,1,2,3,4,5,6,7,8] (by kernel_rfl) ?_;simp only[go_sem,ga,gb]
   refine Sd ?_
   by_cases h1:a[k]=b[k]
   ·rw[if_pos h1] at hst
    refine W1 h1 ?_
    exact⟨_,List.Sublist.refl _,rfl,z,rfl,hst⟩
   ·rw[if_neg h1] at hst
    refine W1 h1 ?_
    repeat(first|(with_reducible refine AWp.seq ?_)|(with_reducible refine AWp.block ?_))
    refine AWp.read mixed [0,1,2,3,4,5,6,7,8,9,10,11,12,13] (by kernel_rfl) ?_;simp only[go_sem,ga,gb]
    refine Sd ?_
    refine Wk ?_
    refine⟨fun h2 => ?_,fun h2 h3 => ?_⟩
    ·rw[if_pos h2] at hst
     have hno:stepG a b a.length=none:=by
      have:=stepG_neg hst (m:=a.length - (k+1))
      rwa [show k+1+(a.length - (k+1))=a.length by omega] at this
     rw[hno]
     refine Wk ?_
     refine ret_eq ?_;simp only[go_sem]
     rfl
    ·rw[if_neg (fun h=>h.elim h2 fun h=>h h3)] at hst
     refine Wk ?_
     exact⟨_,List.Sublist.refl _,rfl,k,rfl,hst⟩
  ·have:k=a.length:=by omega
   subst this
   have hki:¬(b.length:Int)<(b.length:Int):=by omega
   rw[hz]
   refine W2 hki hli ?_
   refine ret_eq ?_;simp only[go_sem]
   rfl
 ·have hli:¬(a.length:Int)=b.length:=by omega
  have hF:stepF a b = -1:=by unfold stepF;rw[if_neg hl]
  rw[hF]
  refine PC.enter 43 [.tmp 4] [] Proofs.Tryz.func113 rfl rfl rfl rfl rfl (by simp) (AWp.of ?_);simp only[go_sem]
  refine W1 hli ?_
  refine ret_eq ?_;simp only[go_sem]
theorem isR_nil (ps:List Pr):isR ps []=false:=by unfold isR;cases validF ps <;> rfl
theorem chn_iff {ps:List Pr} : ∀ {r:List (List Int)} {a:List Int},chnF ps a r=true↔∀j (h:j<r.length),isF ps r[j]=true∧0≤stepF ((a :: r)[j]'(by rw[List.length_cons];omega)) r[j]
 | [],a=>⟨fun _ j h=>absurd h (by simp),fun _=>rfl⟩
 | b :: r,a=>by
  have e:chnF ps a (b :: r)=((isF ps b && decide (0≤stepF a b)) && chnF ps b r):=rfl
  rw[e,Bool.and_eq_true,Bool.and_eq_true,decide_eq_true_eq,chn_iff]
  constructor
  ·rintro⟨h1,h2⟩ j hj
   cases j with
   | zero=>exact h1
   | succ j=>exact h2 j (by simpa using hj)
  ·intro h
   exact⟨h 0 (by simp),fun j hj=>h (j+1) (by simpa using hj)⟩
theorem cb_small {c:List Int} (h:Cb c):∀z ∈ c,-9223372036854775808≤z∧z≤9223372036854775807:=fun z hz=>by have:=h.2 z hz;omega
set_option maxHeartbeats 1000000 in
theorem ref24_Is (ps:List Pr) (hs:Sm ps) (r:List (List Int)) (hl:r.length≤1000000) (hx:∀x ∈ r,x.length≤1000000):PC Proofs.Tryz.prog 65 [aTr ps,aRows r] (ab (isR ps r)):=by
 have hva:=ref12_Valid ps hs
 have haR:∀x:List (List Int),aRows x = .sl 1 (x.map aInts):=fun _=>rfl
 have hpl:=hs.procs
 have hLe:=ref12_Lengths ps hs
 have hir:isR ps r=(validF ps && isRunF ps r):=rfl
 have hrep:List.replicate ps.length (AV.v (.int .i64 0))=(zeroC ps).map ai:=by unfold zeroC;rw[List.map_replicate]
 have hzl:(zeroC ps).length=ps.length:=by simp [zeroC]
 cases r with
 | nil =>
  rw[isR_nil,haR]
  have z0:(((0:Nat):Int)=0)=True:=eq_true rfl
  refine PC.enter 67 [.tmp 4] [2,21] Proofs.Tryz.func65 rfl rfl rfl rfl rfl (by simp) (AWp.of ?_);simp only[go_sem]
  refine Wk ?_
  repeat(first|(with_reducible refine AWp.seq ?_)|(with_reducible refine AWp.block ?_))
  refine AWp.mix mixed [0,1,2,3,4,5,6,7,8,9,10,11,12,13,14,15,16,17,18,19,20,21,22,23,24,25,26,27,28,29,30] .done (by kernel_rfl) ?_;simp only[go_sem]
  refine Sd ?_
  refine GCall.use (ab (validF ps)) (fun _=>⟨At,(hva).val.use ⟨rfl,rfl⟩⟩) ?_;simp only[go_sem,List.getD_nil,z0]
  refine GCall.use (ab false) (fun h=>by simp at h) ?_
  simp only[go_sem,List.getD_nil]
  refine GCall.use (aInts []) (fun h=>by simp at h) ?_
  simp only[go_sem]
  refine GCall.use (ab false) (fun h=>by simp at h) ?_
  simp only[go_sem]
  refine Wk ?_
  refine ret_eq ?_;simp only[go_sem]
 | cons a r =>
  have hal:=hx a List.mem_cons_self
  obtain⟨lst,hlst⟩:∃lst,(a :: r)[r.length]'(by simp)=lst:=⟨_,rfl⟩
  have hll:lst.length≤1000000:=hx lst (by rw[← hlst];exact List.getElem_mem _)
  have hgl:(a :: r).getLast?=some lst:=by
   rw[List.getLast?_eq_getElem?,← hlst,List.getElem?_eq_getElem (by simp)]
   congr 1
  have hsF:isR ps (a :: r)=(validF ps && ((decide (a=zeroC ps) && decide (lst=fullC ps)) && chnF ps a r)):=by
   rw[hir]
   show (validF ps && (decide (a=zeroC ps∧(a :: r).getLast?=some (fullC ps)) && chnF ps a r))=_
   rw[hgl,Bool.decide_and]
   congr 3
   exact decide_eq_decide.2 ⟨fun h=>Option.some.inj h,fun h=>congrArg some h⟩
  have he1:=ref24_same a (zeroC ps) hal
  have he2:=ref24_same lst (fullC ps) hll
  have hR0:((a :: r).map aInts).getD 0 .any=aInts a:=rfl
  have hRl:((a :: r).map aInts).getD r.length .any=aInts lst:=by
   rw[List.getD_eq_getElem?_getD,List.getElem?_map,List.getElem?_eq_getElem (by simp),hlst];rfl
  have hRn:((a :: r).map aInts).length=r.length+1:=by rw[List.length_map,List.length_cons]
  have hrl:r.length≤1000000:=by rw[List.length_cons] at hl;omega
  have hix:(((r.length+1:Nat):Int) - 1).toNat=r.length:=by omega
  have hn0:¬(((r.length+1:Nat):Int)=0):=by omega
  have hRg:∀k (hk:k<(a :: r).length),((a :: r).map aInts).getD k .any=aInts (a :: r)[k]:=fun k hk=>getD_map hk
  have hci:=chn_iff (ps:=ps) (r:=r) (a:=a)
  have hI:=fun hv d=>ref23_Is ps hs (valid_len hv).1 d
  have hxg:∀k (hk:k<(a :: r).length),((a :: r)[k]).length≤1000000:=fun k hk=>hx _ (List.getElem_mem hk)
  rw[haR,hsF]
  generalize hR:(a :: r).map aInts=R at *
  generalize chnF ps a r=ch at *
  cases hv:validF ps with
  | false =>
   rw[hv] at hva
   refine PC.enter 67 [.tmp 4] [2,21] Proofs.Tryz.func65 rfl rfl rfl rfl rfl (by simp) (AWp.of ?_);simp only[go_sem]
   refine Wk ?_
   repeat(first|(with_reducible refine AWp.seq ?_)|(with_reducible refine AWp.block ?_))
   refine AWp.mix mixed [0,1,2,3,4,5,6,7,8,9,10,11,12,13,14,15,16,17,18,19,20,21,22,23,24,25,26,27,28,29,30] .done (by kernel_rfl) ?_;simp only[go_sem]
   refine Sd ?_
   refine GCall.use (ab false) (fun _=>⟨At,(hva).val.use ⟨rfl,rfl⟩⟩) ?_;simp only[go_sem,hR0,hRn,hn0,hrep]
   refine GCall.use (ab false) (fun h=>by simp at h) ?_
   simp only[go_sem,hRl,hRn,hix]
   refine GCall.use (aInts []) (fun h=>by simp at h) ?_
   simp only[go_sem]
   refine GCall.use (ab false) (fun h=>by simp at h) ?_
   simp only[go_sem]
   refine Wk ?_
   refine ret_eq ?_;simp only[go_sem]
  | true =>
   rw[hv] at hva
   have hI:=hI hv
   refine PC.enter 67 [.tmp 4] [2,21] Proofs.Tryz.func65 rfl rfl rfl rfl rfl (by simp) (AWp.of ?_);simp only[go_sem]
   refine Wk ?_
   repeat(first|(with_reducible refine AWp.seq ?_)|(with_reducible refine AWp.block ?_))
   refine AWp.mix mixed [0,1,2,3,4,5,6,7,8,9,10,11,12,13,14,15,16,17,18,19,20,21,22,23,24,25,26,27,28,29,30] .done (by kernel_rfl) ?_;simp only[go_sem]
   refine Sd ?_
   refine GCall.use (ab true) (fun _=>⟨At,(hva).val.use ⟨rfl,rfl⟩⟩) ?_;simp only[go_sem,hR0,hRn,hn0,hrep]
   refine Sd ?_
   refine Sd ?_
   refine GCall.use (ab (decide (a=zeroC ps))) (fun _=>⟨At,(he1).val.use ⟨rfl,rfl⟩⟩) ?_;simp only[go_sem,hRl,hRn,hix]
   refine Sd ?_
   refine Sd ?_
   refine GCall.use (aInts (fullC ps)) (fun _=>⟨At,(hLe).val.use ⟨rfl,rfl⟩⟩) ?_;simp only[go_sem]
   refine Sd ?_
   refine GCall.use (ab (decide (lst=fullC ps))) (fun _=>⟨At,(he2).val.use ⟨rfl,rfl⟩⟩) ?_;simp only[go_sem]
   by_cases hc:a=zeroC ps∧lst=fullC ps
   ·have d1:=decide_eq_true hc.1
    have d2:=decide_eq_true hc.2
    rw[d1,d2]
    refine Wk ?_
    refine AWp.block (AWp.count 5 (r.length+1) [] [1,2] (fun k vs L=>L=[]∧∀j (hj:j<(a :: r).length),j<k→isF ps (a :: r)[j]=true∧(0<j→0≤stepF ((a :: r)[j - 1]'(by omega)) (a :: r)[j])) rfl rfl ⟨rfl,fun j _ h=>by omega⟩ ?_)
    rintro k vs L hk - ⟨rfl,hJ⟩
    simp only[go_sem]
    by_cases hkl:k<r.length+1
    ·have hki:(k:Int)<((r.length+1:Nat):Int):=by omega
     have hk1:k<(a :: r).length:=by rw[List.length_cons];omega
     have hgk:=hRg k hk1
     have hIk:=hI (a :: r)[k]
     have hno:isF ps (a :: r)[k]=false∨(∃h:0<k,¬0≤stepF ((a :: r)[k - 1]'(by omega)) (a :: r)[k])→ch=false:=fun h=>by
      cases hch:ch with
      | false=>rfl
      | true =>
       exfalso
       have h2:=hci.1 hch
       rcases h with h|⟨h0,h⟩
       ·cases k with
        | zero =>
         have:(a :: r)[0]=zeroC ps:=hc.1
         rw[this,zeroC_is] at h;cases h
        | succ k =>
         have:=(h2 k (by omega)).1
         have e:(a :: r)[k+1]=r[k]:=rfl
         rw[e,this] at h;cases h
       ·cases k with
        | zero=>omega
        | succ k=>exact h (h2 k (by omega)).2
     by_cases hk0:k=0
     ·subst hk0
      have hF:isF ps (a :: r)[0]=true:=by
       have:(a :: r)[0]=zeroC ps:=hc.1
       rw[this];exact zeroC_is ps
      rw[hF] at hIk
      have hgm:R.getD (((0:Nat):Int) - 1).toNat .any=aInts a:=hR0
      have z0:¬(0:Int)<((0:Nat):Int):=by omega
      have hki:((0:Nat):Int)<((r.length+1:Nat):Int):=by omega
      have hst:∀j (hj:j<(a :: r).length),j<0+1→isF ps (a :: r)[j]=true∧(0<j→0≤stepF ((a :: r)[j - 1]'(by omega)) (a :: r)[j]):=fun j hj h=>by
       have:j=0:=by omega
       subst this
       exact⟨hF,fun h=>by omega⟩
      change PC _ _ [aTr ps,aInts a] _ at hIk
      refine W2 hki hRn ?_
      repeat(first|(with_reducible refine AWp.seq ?_)|(with_reducible refine AWp.block ?_))
      refine AWp.mix mixed [0,1,2,3,4,5,6,7,8,9,10,11,12,13,14,15,16,17,18,19,20,21,22,23] .done (by kernel_rfl) ?_;simp only[go_sem,hR0]
      refine Sd ?_
      refine Sd ?_
      refine GCall.use (ab true) (fun _=>⟨At,(hIk).val.use ⟨rfl,rfl⟩⟩) ?_;simp only[go_sem,hR0,hgm,z0]
      refine Sd ?_
      refine GCall.use (ai 0) (fun h=>by simp at h) ?_
      simp only[go_sem]
      refine Wk ?_
      exact⟨_,List.Sublist.refl _,rfl,hst⟩
     ·have hkm:((k:Int) - 1).toNat=k - 1:=by omega
      have hk2:k - 1<(a :: r).length:=by omega
      have hgm:=hRg (k - 1) hk2
      have z0:(0:Int)<(k:Int):=by omega
      have hJm:=(hJ (k - 1) hk2 (by omega)).1
      have hst:isF ps (a :: r)[k]=true→0≤stepF ((a :: r)[k - 1]'hk2) (a :: r)[k]→∀j (hj:j<(a :: r).length),j<k+1→isF ps (a :: r)[j]=true∧(0<j→0≤stepF ((a :: r)[j - 1]'(by omega)) (a :: r)[j]):=fun g1 g2 j hj h=>by
       by_cases e:j=k
       ·subst e;exact⟨g1,fun _=>g2⟩
       ·exact hJ j hj (by omega)
      have hSt:=fun (hb:isF ps (a :: r)[k]=true)=>ref24_step (a :: r)[k - 1] (a :: r)[k] (isF_cb hs hJm) (cb_small (isF_cb hs hb))
      have hno2:¬0≤stepF (a :: r)[k - 1] (a :: r)[k]→ch=false:=fun h=>hno (.inr ⟨by omega,h⟩)
      have hno1:isF ps (a :: r)[k]=false→ch=false:=fun h=>hno (.inl h)
      clear hno hJ hci hxg hR hRg
      generalize hzz:stepF (a :: r)[k - 1] (a :: r)[k]=z at *
      cases hbF:isF ps (a :: r)[k] with
      | true =>
       rw[hbF] at hIk
       have hSt:=hSt hbF
       refine W2 hki hRn ?_
       repeat(first|(with_reducible refine AWp.seq ?_)|(with_reducible refine AWp.block ?_))
       refine AWp.mix mixed [0,1,2,3,4,5,6,7,8,9,10,11,12,13,14,15,16,17,18,19,20,21,22,23] .done (by kernel_rfl) ?_;simp only[go_sem,hgk]
       refine Sd ?_
       refine Sd ?_
       refine GCall.use (ab true) (fun _=>⟨At,(hIk).val.use ⟨rfl,rfl⟩⟩) ?_;simp only[go_sem,hgk,hkm,hgm,z0]
       refine Sd ?_
       refine Sd ?_
       refine GCall.use (ai z) (fun _=>⟨At,(hSt).val.use ⟨rfl,rfl⟩⟩) ?_;simp only[go_sem]
       refine Wk ?_
       refine⟨fun h1 => ?_,fun h1 => ?_⟩
       ·rw[hno2 (by omega)]
        refine Wk ?_
        refine ret_eq ?_;simp only[go_sem]
       ·refine Wk ?_
        exact⟨_,List.Sublist.refl _,rfl,hst hbF (by omega)⟩
      | false =>
       rw[hno1 hbF]
       rw[hbF] at hIk
       refine W2 hki hRn ?_
       repeat(first|(with_reducible refine AWp.seq ?_)|(with_reducible refine AWp.block ?_))
       refine AWp.mix mixed [0,1,2,3,4,5,6,7,8,9,10,11,12,13,14,15,16,17,18,19,20,21,22,23] .done (by kernel_rfl) ?_;simp only[go_sem,hgk]
       refine Sd ?_
       refine Sd ?_
       refine GCall.use (ab false) (fun _=>⟨At,(hIk).val.use ⟨rfl,rfl⟩⟩) ?_;simp only[go_sem,hgk,hkm,hgm,z0]
       refine Sd ?_
       refine GCall.use (ai 0) (fun h=>by simp at h) ?_
       simp only[go_sem]
       refine Wk ?_
       refine ret_eq ?_;simp only[go_sem]
    ·have hki:¬(k:Int)<((r.length+1:Nat):Int):=by omega
     have:k=r.length+1:=by omega
     subst this
     have hch:ch=true:=hci.2 fun j hj=>⟨(hJ (j+1) (by simpa using hj) (by omega)).1,(hJ (j+1) (by simpa using hj) (by omega)).2 (by omega)⟩
     rw[hch]
     refine W2 hki hRn ?_
     refine ret_eq ?_;simp only[go_sem]
   ·have hor:(!decide (a=zeroC ps) || !decide (lst=fullC ps))=true:=by
     rw[← Bool.not_and,← Bool.decide_and,decide_eq_false hc];rfl
    have han:(decide (a=zeroC ps) && decide (lst=fullC ps))=false:=by rw[← Bool.decide_and,decide_eq_false hc]
    rw[hor,han]
    refine Wk ?_
    refine ret_eq ?_;simp only[go_sem]
theorem valid_off {ps:List Pr} (hv:validF ps=true):off ps ps.length≤512:=by
 have h:∀k,k≤ps.length→off ps k≤64 * k:=fun k=>by
  induction k with
  | zero=>intro _;simp [off]
  | succ k ih =>
   intro hk
   have h1:=off_succ (show k<ps.length by omega)
   have h2:=ih (by omega)
   have h3:ps[k].evs.length≤64:=by
    apply Classical.byContradiction
    intro h4
    exact procF_evs (show k<ps.length by omega) (by omega) (procF_of_valid hv (by omega))
   omega
 have:=h ps.length (Nat.le_refl _)
 have:=(valid_len hv).2
 omega
def lessB (c to:List Int) (x:Int):Bool:=decide (cAt c x<cAt to x)
theorem enI_first {ps:List Pr} {c to:List Int} (hc:c.length=ps.length) (ht:to.length=ps.length) (hle:leqF c to=true) {q:Nat} (h:firstP ps (fun d=>leqF d to) c=some q):(enI ps c c.length).find? (lessB c to)=some (q:Int):=by
 unfold enI enF
 rw[List.find?_map,List.find?_filter]
 have e:(List.range c.length).find? (fun p=>decide (rdyF ps c p=true∧(lessB c to ∘ fun (p:Nat)=>(p:Int)) p=true))=firstP ps (fun d=>leqF d to) c:=by
  unfold firstP
  refine find_congr fun p hp => ?_
  have hp:=List.mem_range.1 hp
  have h1:leqF (stpC c p) to=decide (cAt c p<cAt to p):=by
   cases hd:decide (cAt c p<cAt to p) with
   | true=>exact(leq_at (by rw[stp_len];exact hc) ht).2 (leq_stp hc ((leq_at hc ht).1 hle) ht (of_decide_eq_true hd))
   | false =>
    cases hl:leqF (stpC c p) to with
    | false=>rfl
    | true =>
     have:=(leq_at (by rw[stp_len];exact hc) ht).1 hl p (by omega)
     rw[cAt_stp hp,if_pos rfl] at this
     have h2:=of_decide_eq_false hd
     omega
  show decide (rdyF ps c p=true∧lessB c to p=true)=(rdyF ps c p && leqF (stpC c p) to)
  rw[h1,Bool.decide_and,Bool.decide_eq_true,Bool.decide_eq_true];rfl
 first|rw[e,h];rfl|(have e2:=e;simp only[Function.comp_def] at e2 ⊢;rw[e2,h];rfl)
def wkL (ps:List Pr) (bw bo:Nat) (O:List (List Int)) (cap:Nat):AHeap:=[(bw,.row 146 2 [.agg [.sl 3 (ps.map aPr),.ls bo 1 0 O.length cap]] 1),(bo,.row 42 1 (O.map aInts) cap)]
theorem last_getD {O:List (List Int)} {c:List Int} (hO:O.getLast?=some c):0<O.length∧(O.map aInts).getD (O.length - 1) .any=aInts c:=by
 refine⟨?_,?_⟩
 ·cases O with
  | nil=>cases hO
  | cons a l=>simp
 ·rw[List.getLast?_eq_getElem?] at hO
  rw[List.getD_eq_getElem?_getD,List.getElem?_map,hO];rfl
theorem walker_last {ps:List Pr} {bw bo cap:Nat} {O:List (List Int)} {c:List Int} (hO:O.getLast?=some c) (hl:O.length≤1000000) {L:AHeap} (h1:lk L bw=some (.row 146 2 [.agg [.sl 3 (ps.map aPr),.ls bo 1 0 O.length cap]] 1))
  (h2:lk L bo=some (.row 42 1 (O.map aInts) cap)):MCalls Proofs.Tryz.prog 89 [.lp bw 2 0 0] L fun r L'=>r=aInts c∧L'=L:=by
 obtain⟨hO0,hgl⟩:=last_getD hO
 have hix:((O.length:Int) - 1).toNat=O.length - 1:=by omega
 have hOm:(O.map aInts).length=O.length:=List.length_map _
 refine MCalls.enter' 15 [.tmp 2] [] Proofs.Tryz.func89 rfl rfl rfl rfl rfl (by simp) (AWp.of ?_);simp only[go_sem]
 refine W2 h1 h2 ?_
 repeat(first|(with_reducible refine AWp.seq ?_)|(with_reducible refine AWp.block ?_))
 refine AWp.read mixed [0,1,2,3,4,5,6,7,8,9,10,11,12] (by kernel_rfl) ?_;simp only[go_sem,h1,h2,hgl,hix,hOm]
 refine Sd ?_
 refine Wk ?_
 refine ret_own ?_
 simp only[go_sem]
theorem walker_lastP {ps:List Pr} {O:List (List Int)} {c:List Int} (hO:O.getLast?=some c) (hl:O.length≤1000000):PC Proofs.Tryz.prog 89 [.rp 2 [.agg [.sl 3 (ps.map aPr),.sl 1 (O.map aInts)]] 0 0] (aInts c):=by
 obtain⟨hO0,hgl⟩:=last_getD hO
 have hix:((O.length:Int) - 1).toNat=O.length - 1:=by omega
 have hOm:(O.map aInts).length=O.length:=List.length_map _
 refine PC.enter 15 [.tmp 2] [] Proofs.Tryz.func89 rfl rfl rfl rfl rfl (by simp) (AWp.of ?_);simp only[go_sem]
 refine Wk ?_
 repeat(first|(with_reducible refine AWp.seq ?_)|(with_reducible refine AWp.block ?_))
 refine AWp.read mixed [0,1,2,3,4,5,6,7,8,9,10,11,12] (by kernel_rfl) ?_;simp only[go_sem,hgl,hix,hOm]
 refine Sd ?_
 refine Wk ?_
 refine ret_eq ?_;simp only[go_sem]
theorem strong_dodge1 {ps:List Pr} {O:List (List Int)} {c:List Int} (hO:O.getLast?=some c) (hl:O.length≤1000000) (s:Stp) (hs:s.1<c.length) :
  PC Proofs.Tryz.prog 90 [aStr ps s,.rp 1 [.rp 2 [.agg [.sl 3 (ps.map aPr),.sl 1 (O.map aInts)]] 0 0] 0 0] (ab (decide (cAt c s.1<(s.2.1:Int)))):=by
 have h1:=walker_lastP (ps:=ps) hO hl
 have hg:=getD_map (f:=ai) hs
 rw[← cAt_nat hs] at hg
 have hR:aStr ps s = .agg [ai s.1,ai s.2.1,ai s.2.2,pastV ps s]:=rfl
 rw[hR]
 refine PC.enter 15 [.tmp 3] [2] Proofs.Tryz.func90 rfl rfl rfl rfl rfl (by simp) (AWp.of ?_);simp only[go_sem]
 refine Wk ?_
 repeat(first|(with_reducible refine AWp.seq ?_)|(with_reducible refine AWp.block ?_))
 refine AWp.read mixed [0,1,2,3,4,5,6,7,8,9,10,11] (by kernel_rfl) ?_;simp only[go_sem]
 refine Sd ?_
 refine GCall.use (aInts c) (fun _=>⟨At,(h1).val.use ⟨rfl,rfl⟩⟩) ?_;simp only[go_sem,hg]
 refine Sd ?_
 refine Wk ?_
 refine ret_eq ?_;simp only[go_sem]
set_option maxHeartbeats 1000000 in
theorem walker_walk (ps:List Pr) (hs:Sm ps) (hv:validF ps=true) (c to:List Int) (hc:isF ps c=true) (ht:isF ps to=true) (hle:leqF c to=true) (O:List (List Int)) (hO:O.getLast?=some c) (hOl:O.length≤1000) (R:List (List Int))
  (hR:wlkR ps (fun d=>leqF d to) (to.sum - c.sum).toNat c=some R) (hRl:R.length≤1000) (bw bo cap:Nat) (hb:¬bw=bo) :
  MCalls Proofs.Tryz.prog 92 [.lp bw 2 0 0,aInts to] (wkL ps bw bo O cap) fun r L=>r = .tup []∧∃bo' cap',¬bw=bo'∧L=wkL ps bw bo' (O ++ R) cap':=by
 have hen:=fun d hd=>cut_Enabled ps hs hv d hd
 have htl:=(isF_iff.1 ht).1
 have htb:=isF_cb hs ht
 have hsu:=(leq_sum hle).1
 have hd8:=(valid_len hv).2
 have hwL:∀bo O cap,wkL ps bw bo O cap=[(bw,.row 146 2 [.agg [.sl 3 (ps.map aPr),.ls bo 1 0 O.length cap]] 1),(bo,.row 42 1 (O.map aInts) cap)]:=fun _ _ _=>rfl
 rw[hwL]
 refine MCalls.enter' 55 [] [50] Proofs.Tryz.func92 rfl rfl rfl rfl rfl (by simp) (AWp.of ?_);simp only[go_sem]
 refine AWp.block (AWp.loopN [] [0,1] (fun m vs L=>∃(d:List Int) (P R':List (List Int)) (b' cap':Nat),¬bw=b'∧isF ps d=true∧leqF d to=true∧d.sum+m=to.sum∧wlkR ps (fun d=>leqF d to) m d=some R'∧O ++ R=P ++ R'∧P.getLast?=some d∧L=wkL ps bw b' P cap') (to.sum - c.sum).toNat ?_ ?_)
 ·exact⟨c,O,R,bo,cap,hb,hc,hle,by omega,hR,rfl,hO,rfl⟩
 rintro m vs L - ⟨d,P,R',b',cap',hb',hd,hdl,hds,hw,hPR,hPd,rfl⟩
 have hdc:=(isF_iff.1 hd).1
 have hdb:=isF_cb hs hd
 have hb2:¬b'=bw:=fun e=>hb' e.symm
 have hPl:(P ++ R').length≤2000:=by rw[← hPR,List.length_append];omega
 rw[List.length_append] at hPl
 have hla:=fun (L:AHeap) h1 h2=>walker_last (ps:=ps) (bw:=bw) (bo:=b') (cap:=cap') hPd (by omega) (L:=L) h1 h2
 have hE:=hen d hd
 have hel:=enI_len ps d d.length
 have hemem:∀i (hi:i<(enI ps d d.length).length),∃p:Nat,(enI ps d d.length)[i]=p∧p<d.length:=fun i hi=>by
  have h1:=List.getElem_mem hi
  generalize (enI ps d d.length)[i]=z at *
  unfold enI at h1
  obtain⟨p,hp,rfl⟩:=List.mem_map.1 h1
  exact⟨p,rfl,(mem_enF.1 hp).1⟩
 have hfi:∀q,firstP ps (fun d=>leqF d to) d=some q→(enI ps d d.length).find? (lessB d to)=some (q:Int):=fun q hq=>enI_first hdc htl hdl hq
 rw[hwL]
 have haI:∀l:List Int,aInts l = .sl 1 (l.map ai):=fun _=>rfl
 rw[haI] at hE
 generalize enI ps d d.length=E at *
 simp only[go_sem]
 refine W2 hb' hb2 ?_
 repeat(first|(with_reducible refine AWp.seq ?_)|(with_reducible refine AWp.block ?_))
 refine AWp.read mixed [0,1,2,3,4,5,6,7,8,9,10,11] (by kernel_rfl) ?_;simp only[go_sem,hb']
 refine GCall.use (.sl 1 (d.map ai)) (fun _=>⟨trivial,(hla _ (by simp only[lk,if_true]) (by simp only[lk,hb2,if_false,if_true])).val⟩) ?_
 simp only[go_sem]
 refine Sd ?_
 refine GCall.use (.tup [.sl 1 (E.map ai),ai 0]) (fun _=>⟨At,(hE).val.use ⟨rfl,rfl⟩⟩) ?_;simp only[go_sem]
 refine Sd ?_
 refine W2 hb' hb2 ?_
 refine(AWp.range' E.length [] [0,1,19,20] (fun k vs L=>L=[(bw,.row 146 2 [.agg [.sl 3 (ps.map aPr),.ls b' 1 0 P.length cap']] 1),(b',.row 42 1 (P.map aInts) cap')]∧∀j (hj:j<E.length),j<k→lessB d to E[j]=false) (by omega) rfl rfl rfl ⟨rfl,fun _ _ h=>by omega⟩ ?_ ?_)
 ·rintro k vs L hk - ⟨rfl,hI⟩
  obtain⟨p,hpE,hpd⟩:=hemem k hk
  have g1:=getD_map (f:=ai) hk
  rw[hpE] at g1
  have g2:=getD_map (f:=ai) hpd
  have hpt:p<to.length:=by omega
  have g3:=getD_map (f:=ai) hpt
  have hlb:lessB d to E[k]=decide (d[p]<to[p]):=by unfold lessB;rw[hpE,cAt_nat hpd,cAt_nat hpt]
  have hI2:lessB d to E[k]=false→∀j (hj:j<E.length),j<k+1→lessB d to E[j]=false:=fun h j hj hjk=>by
   by_cases e:j=k
   ·subst e;exact h
   ·exact hI j hj (by omega)
  simp only[go_sem]
  refine W3 g1 hb' hb2 ?_
  repeat(first|(with_reducible refine AWp.seq ?_)|(with_reducible refine AWp.block ?_))
  refine AWp.read mixed [0,1,2,3,4,5,6,7,8,9] (by kernel_rfl) ?_;simp only[go_sem]
  refine GCall.use (.sl 1 (d.map ai)) (fun _=>⟨trivial,(hla _ (by simp only[lk,if_true]) (by simp only[lk,hb2,if_false,if_true])).val⟩) ?_
  simp only[go_sem,g2,g3]
  refine Sd ?_
  refine W2 hb' hb2 ?_
  refine⟨fun h1 => ?_,fun h1 => ?_⟩
  ·have hm0:m ≠ 0:=fun e=>by
    subst e
    have hdt:d=to:=(leq_sum hdl).2 (by omega)
    subst hdt
    omega
   obtain⟨m,rfl⟩:∃m',m=m'+1:=⟨m - 1,by omega⟩
   obtain⟨q,hq,hqp,hqF,hqle⟩:=first_to hv hd ht hdl (by omega)
   have hfE:E.find? (lessB d to)=some E[k]:=List.find?_eq_some_iff_getElem.2 ⟨by rw[hlb];exact decide_eq_true h1,k,hk,rfl,fun j hj=>by rw[hI j (by omega) hj];rfl⟩
   have hqp2:q=p:=by
    have h2:=(hfi q hq).symm.trans hfE
    rw[hpE] at h2
    have h2:=Option.some.inj h2
    omega
   subst hqp2
   rw[wlkR_succ,hq] at hw
   simp only at hw
   obtain⟨R2,hw2,rfl⟩:∃R2,wlkR ps (fun d=>leqF d to) m (stpC d q)=some R2∧R'=stpC d q :: R2:=by
    cases hx:wlkR ps (fun d=>leqF d to) m (stpC d q) with
    | none=>rw[hx] at hw;cases hw
    | some R2=>rw[hx] at hw;exact⟨R2,rfl,(Option.some.inj hw).symm⟩
   have hsp:(stpC d q).sum=d.sum+1:=sum_stpC hpd
   have hst:((d.map ai).set q (ai (d[q]+1)))=(stpC d q).map ai:=by unfold stpC;rw[List.map_set,cAt_nat hpd]
   have hdq:=hdb.2 _ (List.getElem_mem hpd)
   refine W2 hb' hb2 ?_
   refine MVal.mono (hla _ (by simp only[lk,if_true]) (by simp only[lk,hb2,if_false,if_true])).val ?_
   rintro r L ⟨rfl,rfl⟩
   rw[haI]
   simp only[go_sem]
   refine Sd ?_
   refine(MVal.frame (Lm:=[]) (Lr:=[(bw,.row 146 2 [.agg [.sl 3 (ps.map aPr),.ls b' 1 0 P.length cap']] 1),(b',.row 42 1 (P.map aInts) cap')]) (ints_cloneO d hdb.1).val).mono ?_
   rintro r L ⟨L1,rfl,hC⟩
   rcases hC.inv with ⟨e1,_,_⟩|⟨bc,capc,rfl,rfl⟩
   ·have:d.length=0:=by simpa using congrArg List.length e1
    omega
   simp only[go_sem,List.length_map,List.cons_append,List.nil_append]
   refine AWp.nodup fun hnd => ?_
   obtain⟨⟨n1,n2⟩,⟨n3,n4⟩,_⟩:=nd3 hnd
   clear hnd
   refine Sd ?_
   refine AWp.of ?_;simp only[go_sem,g2,n1,n3]
   refine Sd ?_
   rw[hst]
   refine AWp.viewP (Lf:=[(bc,_)]) (Lk:=[(bw,.row 146 2 [.agg [.sl 3 (ps.map aPr),.ls b' 1 0 P.length cap']] 1),(b',.row 42 1 (P.map aInts) cap')]) (L':=[(bw,.row 146 2 [.agg [.sl 3 (ps.map aPr),.ls b' 1 0 P.length cap']] 1),(b',.row 42 1 (P.map aInts) cap')]) (List.Perm.refl _) (LVw.refl _) [(8,aInts (stpC d q))] (fun z hz => ?_) ?_
   ·obtain rfl:=List.mem_singleton.1 hz
    simp only[go_sem]
    exact Vw.ofLs (t:=3) (cap:=capc) (if_pos rfl) (by rw[List.length_map];unfold stpC;rw[List.length_set])
   have hyl:(P.map aInts).length≤2000:=by rw[List.length_map];omega
   have e:(P ++ [stpC d q]).map aInts=P.map aInts ++ [.sl 1 ((stpC d q).map ai)]:=by rw[List.map_append];rfl
   have hPl2:(P ++ [stpC d q]).length=P.length+1:=by rw[List.length_append];rfl
   rw[haI]
   simp only[go_sem]
   refine W2 hb' hb2 ?_
   intro b2 cap2 n5 hc2
   have n6:¬b2=bw:=fun e=>n5 e.symm
   simp only[go_sem,n5]
   refine AWp.perm (List.Perm.swap _ _ _) ?_
   refine Wk ?_
   refine⟨_,List.Sublist.refl _,m,by omega,stpC d q,P ++ [stpC d q],R2,b2,cap2,n5,hqF,hqle,by omega,hw2,by rw[hPR];simp,by simp,?_⟩
   rw[hwL,hPl2,e]
  ·exact⟨_,List.Sublist.refl _,rfl,hI2 (by rw[hlb];exact decide_eq_false h1)⟩
 ·rintro vs L - ⟨rfl,hI⟩
  have hm0:m=0:=by
   apply Classical.byContradiction
   intro hm
   obtain⟨q,hq,_⟩:=first_to hv hd ht hdl (by omega)
   have h1:=hfi q hq
   have h2:=List.find?_some h1
   have h3:=List.mem_of_find?_eq_some h1
   obtain⟨j,hj,e⟩:=List.getElem_of_mem h3
   have:=hI j hj hj
   rw[e] at this
   rw[this] at h2;cases h2
  subst hm0
  have hR':R'=[]:=(Option.some.inj hw).symm
  subst hR'
  rw[List.append_nil] at hPR
  simp only[go_sem]
  refine Wk ?_
  refine ret_own ?_
  simp only[go_sem]
  exact⟨b',cap',hb',by rw[hPR];rfl⟩
end Go.AL
end
