/- Texts of this claim's proof: AlRng, WMf, WNd2, WNh, WNi, WNj, WOb, WOc. No condition. -/
import Derived.Test.YtkkcgocdmaodbaaGreatDoorM3
import Derived.Test.YtkkcgocdmaodbaaGreatDoorM15
import Derived.Test.YtkkcgocdmaodbaaGreatDoorM10
import Derived.Test.YtkkcgocdmaodbaaGreatDoorM14
import Derived.Test.YtkkcgocdmaodbaaGreatDoorM6
import Derived.Test.YtkkcgocdmaodbaaGreatDoorM12
section
namespace Go.AL
open Go Go.RowKit
theorem AWp.range1 {C:Cfg} {id i1 i2 t s n t2:Nat} {ty1 ty2 ty3 ty4 r1 r2 r3:TypeId} {p1 p2 p3:String} {a1 a2 a3:Array Edge} {body:Code} {Q:AQ} {ρ:Env} {L:AHeap}
  (m:Nat) (ls ks:List Nat) (I:Nat→List AV→AHeap→Prop) (hm:m≤9223372036854775807) (hs:get ρ s=ai 0) (hn:get ρ n=ai m) (hnk:n ∈ ks) (hsk:s ∉ ks) (hsl:s ∉ ls) (hts:t ≠ s) (htk:t ∉ ks) (h2k:t2 ∉ ks) (htl:t ∉ ls) (h2l:t2 ∉ ls)
  (h0:I 0 (ls.map (get ρ)) L)
  (round:∀k vs L',k<m→vs.length=ls.length→I k vs L'→AWp C body (rangeQ id s k ls ks ρ (I (k+1)) Q) ((s,ai k) :: lenv ls ks vs ρ) L')
  (done:∀vs L',vs.length=ls.length→I m vs L'→Q .normal ((s,ai m) :: lenv ls ks vs ρ) L') :
  AWp C (.block id (.loop (.seq (.region i1 #[⟨some t,.binOp .lss ty1 (.tmp s) (.tmp n) ty2,r1,p1,a1,none⟩] false) (.seq (.cond (.tmp t) .skip (.exit id)) (.seq body
   (.region i2 #[⟨some t2,.binOp .add ty3 (.tmp s) (.const (.int .i64 1)) ty4,r2,p2,a2,none⟩,⟨some s,.move (.tmp t2),r3,p3,a3,none⟩] false)))))) Q ρ L:=by
 have hnl:∀vs:List AV,vs.length=ls.length→get (lenv ls ks vs ρ) n=ai m:=fun vs _=>by
  unfold lenv
  have hin:n ∈ (keep ks ρ).map (·.1):=by simp [keep,hnk]
  rw[get_append,if_pos hin]
  rcases get_keep ks ρ n with e|e
  ·have:∀l:List Nat,n ∈ l→get (keep l ρ) n=get ρ n:=fun l=>by
    induction l with
    | nil=>intro h;cases h
    | cons x r ih =>
     intro h
     simp only[keep,List.map_cons,get]
     split
     ·rename_i e;rw[e]
     ·rename_i e;exact ih ((List.mem_cons.1 h).resolve_left e)
   rw[this ks hnk,hn]
  ·rw[e,hn]
 have hns:n ≠ s:=fun e=>hsk (e ▸ hnk)
 have dropT:∀(k:Nat) (vs:List AV) (x:AV) (i:Nat),get ((s,ai k) :: lenv ls ks vs ρ) i = .any∨get ((s,ai k) :: lenv ls ks vs ρ) i=get ((t,x) :: (s,ai k) :: lenv ls ks vs ρ) i:=fun k vs x i=>by
  by_cases hi:i=t
  ·subst hi
   refine .inl ?_
   simp only[get,if_neg hts,lenv]
   rw[get_append,if_neg (by simp [keep,htk])]
   have:∀(l:List Nat) (v:List AV),i ∉ l→get (l.zip v) i = .any:=fun l=>by
    induction l with
    | nil=>intro v _;rfl
    | cons x r ih =>
     intro v h
     cases v with
     | nil=>rfl
     | cons y v =>
      simp only[List.zip_cons_cons,get]
      rw[if_neg (by rintro rfl;exact h List.mem_cons_self)]
      exact ih v (fun hh=>h (List.mem_cons_of_mem _ hh))
   exact this ls vs htl
  ·exact .inr (by simp [get,hi])
 refine AWp.block (AWp.loop (s :: ls) ks (fun vs' L'=>∃(k:Nat) (vs:List AV),vs'=ai (k:Int) :: vs∧k≤m∧I k vs L') (fun vs' _=>match vs' with | .v (.int _ k) :: _=>m - k.toNat|_=>0)
  ⟨0,_,by simp [hs],Nat.zero_le _,h0⟩ ?_)
 rintro vs' L' hl ⟨k,vs,rfl,hk,hI⟩
 have hvl:vs.length=ls.length:=by simpa using hl
 -- the counter first
 refine AWp.st (ρ':=(s,ai k) :: lenv ls ks vs ρ) (L':=L') (fun w0 M A0 a w h=>st_forget h fun i => ?_) ?_
 ·by_cases hi:i=s
  ·subst hi
   refine .inr ?_
   simp only[get,if_true,lenv]
   rw[get_append,if_neg (by simp [keep,hsk])]
   simp [get]
  ·refine .inr ?_
   simp only[get,if_neg hi,lenv,List.zip_cons_cons]
   rw[get_append,get_append]
   split
   ·rfl
   ·simp [get,hi]
 have hget_s:get ((s,ai k) :: lenv ls ks vs ρ) s=ai k:=by simp [get]
 have hget_n:get ((s,ai k) :: lenv ls ks vs ρ) n=ai m:=by simp only[get,if_neg hns];exact hnl vs hvl
 refine AWp.seq (AWp.region ?_)
 simp only[aregion,astep,aop,aval,ev,hget_s,hget_n,w2,fo,aEq,aBin,thenQ,put]
 refine⟨by simp,?_⟩
 refine AWp.seq (AWp.cond (t:=decide ((k:Int)<m)) (by simp [ev,get]) (fun ht => ?_) (fun hf => ?_))
 ·have hlt:k<m:=by simpa using ht
  refine AWp.of ?_
  simp only[awp1,thenQ]
  refine AWp.st (ρ':=(s,ai k) :: lenv ls ks vs ρ) (L':=L') (fun w0 M A0 a w h=>st_forget h (dropT k vs _)) ?_
  refine AWp.seq ((round k vs L' hlt hvl hI).mono ?_)
  intro e ρ' L'' hq
  cases e with
  | normal =>
   obtain⟨g1,g2,L3,g3,g4⟩:=hq
   simp only[thenQ]
   refine AWp.region ?_
   have hi64:I64 ((k:Int)+1):=by unfold I64;omega
   simp only[aregion,astep,aop,aval,ev,g1,w2,fo,aEq,aBin,put,if_true,get]
   refine⟨⟨⟨trivial,trivial⟩,trivial,hi64⟩,trivial,?_⟩
   simp only[roundQ]
   have hks:ks.map (get ((s,ai ((k:Int)+1)) :: (t2,ai ((k:Int)+1)) :: ρ'))=ks.map (get ρ'):=List.map_congr_left fun j hj=>by
    simp only[get];rw[if_neg (by rintro rfl;exact hsk hj),if_neg (by rintro rfl;exact h2k hj)]
   have hls:ls.map (get ((s,ai ((k:Int)+1)) :: (t2,ai ((k:Int)+1)) :: ρ'))=ls.map (get ρ'):=List.map_congr_left fun j hj=>by
    simp only[get];rw[if_neg (by rintro rfl;exact hsl hj),if_neg (by rintro rfl;exact h2l hj)]
   refine⟨by rw[hks];exact g2,L3,g3,⟨k+1,_,?_,hlt,g4⟩,?_⟩
   ·rw[List.map_cons,hls]
    simp only[get,if_true]
    rfl
   ·simp only[List.map_cons,get,if_true]
    have:((k:Int)+1).toNat=k+1:=by omega
    simp only[this,Int.toNat_natCast]
    omega
  | exit id'=>simpa [thenQ,roundQ,blockQ,rangeQ] using hq
  | goto l=>exact hq
  | ret=>exact hq
  | panic c=>exact hq
  | outgrown=>exact hq
 ·have hkm:k=m:=by have:¬((k:Int)<m):=by simpa using hf
                   omega
  subst hkm
  refine AWp.st (ρ':=(s,ai k) :: lenv ls ks vs ρ) (L':=L') (fun w0 M A0 a w h=>st_forget h (dropT k vs _)) (AWp.of ?_)
  simp only[awp1,thenQ,roundQ,blockQ,if_true]
  exact done vs L' hvl hI
theorem AWp.range1' {C:Cfg} {id i1 i2 t s n t2:Nat} {ty1 ty2 ty3 ty4 r1 r2 r3:TypeId} {p1 p2 p3:String} {a1 a2 a3:Array Edge} {body:Code} {Q:AQ} {ρ:Env} {L:AHeap}
  (m:Nat) (ls ks:List Nat) (I:Nat→List AV→AHeap→Prop) (hm:m≤9223372036854775807) (hs:get ρ s=ai 0) (hn:get ρ n=ai m) (hok:rOk s n t t2 ls ks=true)
  (h0:I 0 (ls.map (get ρ)) L)
  (round:∀k vs L',k<m→vs.length=ls.length→I k vs L'→AWp C body (rangeQ id s k ls ks ρ (I (k+1)) Q) ((s,ai k) :: lenv ls ks vs ρ) L')
  (done:∀vs L',vs.length=ls.length→I m vs L'→Q .normal ((s,ai m) :: lenv ls ks vs ρ) L') :
  AWp C (.block id (.loop (.seq (.region i1 #[⟨some t,.binOp .lss ty1 (.tmp s) (.tmp n) ty2,r1,p1,a1,none⟩] false) (.seq (.cond (.tmp t) .skip (.exit id)) (.seq body
   (.region i2 #[⟨some t2,.binOp .add ty3 (.tmp s) (.const (.int .i64 1)) ty4,r2,p2,a2,none⟩,⟨some s,.move (.tmp t2),r3,p3,a3,none⟩] false)))))) Q ρ L:=by
 simp only[rOk,Bool.and_eq_true,Bool.not_eq_true',List.contains_eq_mem,decide_eq_false_iff_not,decide_eq_true_eq,bne_iff_ne,ne_eq] at hok
 obtain⟨⟨⟨⟨⟨⟨⟨h1,h2⟩,h3⟩,h4⟩,h5⟩,h6⟩,h7⟩,h8⟩:=hok
 exact AWp.range1 m ls ks I hm hs hn h1 h2 h3 h4 h5 h6 h7 h8 h0 round done
end Go.AL
end
section
namespace Go.AL
open Go Go.RowKit
set_option maxRecDepth 4000
def mapK (M:List (Int × Eid)):List Value:=(M.map (·.1)).map intV
def mapV (M:List (Int × Eid)):List AV:=M.map fun x=>aEid x.2
theorem mapK_none {m:Int} {M:List (Int × Eid)} (h:∀x ∈ M,x.1 ≠ m):mfind (intV m) (mapK M)=none:=by
 obtain⟨h1,_⟩:=mfind_iset m (M.map (·.1))
 have h2:decide (m ∈ M.map (·.1))=false:=decide_eq_false fun hm=>by
  obtain⟨x,hx,e⟩:=List.mem_map.1 hm
  exact h x hx e
 rw[h2] at h1
 unfold mapK
 cases hf:mfind (intV m) ((M.map (·.1)).map intV) with
 | none=>rfl
 | some i=>rw[hf] at h1;cases h1
theorem mput_new {m:Int} {e:Eid} {M:List (Int × Eid)} (h:∀x ∈ M,x.1 ≠ m):mput (intV m) (aEid e) (mapK M) (mapV M) = .amap (mapK (M ++ [(m,e)])) (mapV (M ++ [(m,e)])):=by
 unfold mput
 rw[mapK_none h]
 simp [mapK,mapV]
theorem mapK_fits (M:List (Int × Eid)):(mapK M).all (KK.sc .int).fits=true:=fits_iset _
theorem mget_mem {m:Int} {e:Eid} {z:AV} : ∀ {M:List (Int × Eid)},(M.map (·.1)).Nodup→(m,e) ∈ M→mget (intV m) (mapK M) (mapV M) z=aEid e
 | [],_,h=>by cases h
 | y :: M,hn,h=>by
  rw[List.map_cons,List.nodup_cons] at hn
  have hk:keyB (intV m) (intV y.1)=decide (m=y.1):=rfl
  unfold mget mapK mapV
  simp only[List.map_cons,mfind,hk,decide_eq_true_eq]
  rcases List.mem_cons.1 h with rfl|h
  ·rw[if_pos rfl];rfl
  ·have hne:¬m=y.1:=fun e2=>hn.1 (by rw[← e2];exact List.mem_map.2 ⟨_,h,rfl⟩)
   rw[if_neg hne]
   have ih:=mget_mem (z:=z) hn.2 h
   unfold mget mapK mapV at ih
   cases hf:mfind (intV m) ((M.map (·.1)).map intV) with
   | none =>
    obtain⟨h1,_⟩:=mfind_iset m (M.map (·.1))
    rw[hf,decide_eq_true (List.mem_map.2 ⟨_,h,rfl⟩)] at h1
    cases h1
   | some i =>
    rw[hf] at ih
    exact ih
def evM (ps:List Pr) (κ:Int) (k:Nat):List (Int × Eid):=((evIds ps).take k).filterMap fun x=>if x.2.kind=κ then some (x.2.msg,x.1) else none
theorem evM_succ {ps:List Pr} {κ:Int} {k:Nat} {x:Eid × Ev} (hx:(evIds ps)[k]?=some x):evM ps κ (k+1)=evM ps κ k ++ if x.2.kind=κ then [(x.2.msg,x.1)] else []:=by
 obtain⟨hk,he⟩:=List.getElem?_eq_some_iff.1 hx
 unfold evM
 rw[List.take_succ_eq_append_getElem hk,List.filterMap_append,he]
 congr 1
 by_cases h:x.2.kind=κ
 ·simp [h]
 ·simp [h]
theorem evM_mem {ps:List Pr} {κ:Int} {k:Nat} {y:Int × Eid} (hy:y ∈ evM ps κ k):∃(p:Nat) (hp:p<ps.length) (i:Nat) (_:i<ps[p].evs.length),off ps p+i<k∧ps[p].evs[i].kind=κ∧y=(ps[p].evs[i].msg,((p:Int),(i:Int)+1)):=by
 unfold evM at hy
 rw[List.mem_filterMap] at hy
 obtain⟨x,hx,h⟩:=hy
 obtain⟨j,hj,hje⟩:=List.mem_take_iff_getElem.1 hx
 have hjx:(evIds ps)[j]?=some x:=by rw[List.getElem?_eq_getElem (by omega),hje]
 obtain⟨p,hp,i,hi,e1,e2⟩:=evIds_inv hjx
 split at h
 ·rename_i hk
  cases h
  subst e2
  exact⟨p,hp,i,hi,by omega,hk,rfl⟩
 ·cases h
theorem evM_new {ps:List Pr} (hm:msgF ps=none) {κ:Int} (hκ:κ=2∨κ=3) {p:Nat} (hp:p<ps.length) {i:Nat} (hi:i<ps[p].evs.length) (hk:ps[p].evs[i].kind=κ):∀y ∈ evM ps κ (off ps p+i),y.1 ≠ ps[p].evs[i].msg:=by
 intro y hy e
 obtain⟨q,hq,j,hj,hlt,hkq,rfl⟩:=evM_mem hy
 simp only at e
 have u1:=pair_unique hm hp hi (by omega)
 have u2:=pair_unique hm hq hj (by omega)
 rw[hk] at u1
 rw[hkq,e,u1] at u2
 obtain⟨a1,a2⟩:=Prod.mk.inj u2
 have hpq:p=q:=by omega
 subst hpq
 omega
theorem evM_nodup {ps:List Pr} (hm:msgF ps=none) {κ:Int} (hκ:κ=2∨κ=3):∀k,((evM ps κ k).map (·.1)).Nodup
 | 0=>by simp [evM]
 | k+1=>by
  have ih:=evM_nodup hm hκ k
  cases hx:(evIds ps)[k]? with
  | none =>
   have:evM ps κ (k+1)=evM ps κ k:=by
    unfold evM
    rw[List.take_of_length_le (by have:=List.getElem?_eq_none_iff.1 hx;omega),List.take_of_length_le (by have:=List.getElem?_eq_none_iff.1 hx;omega)]
   rw[this];exact ih
  | some x =>
   rw[evM_succ hx]
   obtain⟨p,hp,i,hi,e1,rfl⟩:=evIds_inv hx
   by_cases h:ps[p].evs[i].kind=κ
   ·have hnew:=evM_new hm hκ hp hi h
    rw[if_pos h,List.map_append,List.nodup_append]
    refine⟨ih,by simp,fun a ha b hb => ?_⟩
    obtain⟨y,hy,rfl⟩:=List.mem_map.1 ha
    have:b=ps[p].evs[i].msg:=by simpa using hb
    subst this
    rw[e1] at hy
    exact hnew y hy
   ·rw[if_neg h,List.append_nil];exact ih
theorem evM_sndr {ps:List Pr} (hm:msgF ps=none) {p:Nat} (hp:p<ps.length) {i:Nat} (hi:i<ps[p].evs.length) (hk:ps[p].evs[i].kind=3):(ps[p].evs[i].msg,sndr ps ps[p].evs[i].msg) ∈ evM ps 2 (off ps ps.length):=by
 obtain⟨s,hs,j,hj,e,k2,m2⟩:=sndr_some (recv_sndr hm hp hi hk)
 unfold evM
 rw[List.mem_filterMap]
 have hg:=evIds_get hs hj
 refine⟨_,List.mem_take_iff_getElem.2 ⟨off ps s+j,?_,(List.getElem?_eq_some_iff.1 hg).2⟩,?_⟩
 ·have:=(List.getElem?_eq_some_iff.1 hg).1
  rw[evIds_length] at this
  rw[evIds_length];omega
 ·simp only
  rw[if_pos k2,m2,e]
def kwV (ps:List Pr):AV:=.agg [.sl 3 (ps.map aPr),.rm (mapK (evM ps 2 (off ps ps.length))) (mapV (evM ps 2 (off ps ps.length))),.rm (mapK (evM ps 3 (off ps ps.length))) (mapV (evM ps 3 (off ps ps.length)))]
def kwL (ps:List Pr) (b11 b10 b2 k:Nat):AHeap:=[(b11,.amap (mapK (evM ps 3 k)) (mapV (evM ps 3 k))),(b10,.amap (mapK (evM ps 2 k)) (mapV (evM ps 2 k))),(b2,.row 258 3 [.agg [anil,.v (.map none),.v (.map none)]] 1)]
theorem causality_knows (ps:List Pr) (hs:Sm ps) (hv:validF ps=true):PC Proofs.Tryz.prog 214 [aTr ps] (kwV ps):=by
 obtain⟨hl1,hl8⟩:=valid_len hv
 have hm:=(valid_parts hv).2.2
 refine PC.enter 52 [.cell 2 258] [1,3,5,7,8] Proofs.Tryz.func214 rfl rfl rfl rfl rfl (by simp) (AWp.of ?_);simp only[go_sem]
 intro b2
 refine Wk ?_
 intro b10 g10 b11 g11a g11b
 have n1:¬b10=b11:=by omega
 have n2:¬b2=b11:=by omega
 have n3:¬b2=b10:=by omega
 have n4:¬b11=b10:=by omega
 refine W4 n1 n2 n3 n4 ?_
 intros
 refine W4 n1 n2 n3 n4 ?_
 refine AWp.range' ps.length [] [2,3,14,15] (fun p vs L=>L=kwL ps b11 b10 b2 (off ps p)) (by omega) rfl rfl rfl rfl ?_ ?_
 ·rintro p vs L hp - rfl
  have hgp:=getD_map (f:=aPr) hp
  have hel:=hs.evs _ (List.getElem_mem hp)
  have hos:=off_succ hp
  simp only[go_sem]
  refine W1 hgp ?_
  intro b5 g5
  clear g5
  refine Wk ?_
  refine AWp.range' ps[p].evs.length [] [2,3,4,14,15,16,22,23] (fun i vs L=>L=kwL ps b11 b10 b2 (off ps p+i)) (by omega) rfl rfl rfl rfl ?_ ?_
  ·rintro i vs L hi - rfl
   have hge:=getD_map (f:=aEv) hi
   have hev:=evIds_get hp hi
   have s2:=evM_succ (κ:=2) hev
   have s3:=evM_succ (κ:=3) hev
   have w2:=evM_new hm (κ:=2) (.inl rfl) hp hi
   have w3:=evM_new hm (κ:=3) (.inr rfl) hp hi
   simp only at s2 s3
   have hkw:kwL ps b11 b10 b2 (off ps p+(i+1))=[(b11,.amap (mapK (evM ps 3 (off ps p+i+1))) (mapV (evM ps 3 (off ps p+i+1)))),(b10,.amap (mapK (evM ps 2 (off ps p+i+1))) (mapV (evM ps 2 (off ps p+i+1)))),(b2,.row 258 3 [.agg [anil,.v (.map none),.v (.map none)]] 1)]:=rfl
   have hkw0:kwL ps b11 b10 b2 (off ps p+i)=[(b11,.amap (mapK (evM ps 3 (off ps p+i))) (mapV (evM ps 3 (off ps p+i)))),(b10,.amap (mapK (evM ps 2 (off ps p+i))) (mapV (evM ps 2 (off ps p+i)))),(b2,.row 258 3 [.agg [anil,.v (.map none),.v (.map none)]] 1)]:=rfl
   rw[hkw0]
   have hfk:=fits_int ps[p].evs[i].msg
   have hf2:=mapK_fits (evM ps 2 (off ps p+i))
   have hf3:=mapK_fits (evM ps 3 (off ps p+i))
   have m2:=fun h=>mput_new (e:=((p:Int),(i:Int)+1)) (w2 h)
   have m3:=fun h=>mput_new (e:=((p:Int),(i:Int)+1)) (w3 h)
   simp only[intV,aEid] at m2 m3 hfk
   clear w2 w3 hkw0 hev
   generalize evM ps 2 (off ps p+i+1)=M2' at *
   generalize evM ps 3 (off ps p+i+1)=M3' at *
   generalize evM ps 2 (off ps p+i)=M2 at *
   generalize evM ps 3 (off ps p+i)=M3 at *
   generalize ps[p].evs[i]=e at *
   simp only[go_sem]
   refine W1 hge ?_
   intros
   refine Wk ?_
   intros
   refine W6 n1 n2 n3 n4 hfk hf2 ?_
   refine⟨fun h2 => ?_,fun h2 => ?_⟩
   ·rw[if_pos h2] at s2
    rw[if_neg (by omega),List.append_nil] at s3
    refine Sd ?_
    refine⟨_,List.Sublist.refl _,?_⟩
    rw[hkw,s2,s3,m2 h2]
   ·rw[if_neg h2,List.append_nil] at s2
    refine W6 n1 n2 n3 n4 hfk hf3 ?_
    refine⟨fun h3 => ?_,fun h3 => ?_⟩
    ·rw[if_pos h3] at s3
     refine Sd ?_
     refine⟨_,List.Sublist.refl _,?_⟩
     rw[hkw,s2,s3,m3 h3]
    ·rw[if_neg h3,List.append_nil] at s3
     refine Wk ?_
     refine⟨_,List.Sublist.refl _,?_⟩
     rw[hkw,s2,s3]
  ·rintro vs L - rfl
   rw[← hos]
   simp only[go_sem]
   exact⟨_,List.Sublist.refl _,rfl⟩
 ·rintro vs L - rfl
  unfold kwL
  simp only[go_sem]
  refine W4 n1 n2 n3 n4 ?_
  refine ret_view [true,true,true] ?_;simp only[go_sem]
  simp only[go_sem,n2,n3]
  exact .mkAgg (Vws.cons (.refl _) (Vws.cons (.lm (by simp only[lk,n1,if_false,if_true]) rfl (fun i x y h1 h2=>by rw[h1] at h2;cases h2;exact .refl _)) (Vws.cons (.lm (if_pos rfl) rfl (fun i x y h1 h2=>by rw[h1] at h2;cases h2;exact .refl _)) .nil)))
def eidOk (ps:List Pr) (x:Eid):Bool:=decide (0≤x.1) && (decide (x.1<ps.length) && (decide (1≤x.2) && decide (x.2≤nev ps x.1.toNat)))
theorem eidOk_iff {ps:List Pr} {x:Eid} : eidOk ps x=true↔VEv ps x:=by
 unfold eidOk
 simp only[Bool.and_eq_true,decide_eq_true_eq]
 constructor
 ·rintro⟨h1,h2,h3,h4⟩
  have hp:x.1.toNat<ps.length:=by omega
  rw[nev_get hp] at h4
  exact⟨x.1.toNat,hp,x.2.toNat - 1,by omega,Prod.ext (by simp;omega) (by simp;omega)⟩
 ·rintro⟨p,hp,i,hi,rfl⟩
  have:((p:Int)).toNat=p:=by omega
  simp only[this]
  rw[nev_get hp]
  omega
theorem causality_exists (ps:List Pr) (hs:Sm ps) (x:Eid):PC Proofs.Tryz.prog 243 [aTr ps,aEid x] (ab (eidOk ps x)):=by
 have hel:∀(p:Nat) (hp:p<ps.length),ps[p].evs.length≤1000000:=fun p hp=>hs.evs _ (List.getElem_mem hp)
 obtain⟨x1,x2⟩:=x
 have hv:eidOk ps (x1,x2)=(decide (0≤x1) && (decide (x1<ps.length) && (decide (1≤x2) && decide (x2≤nev ps x1.toNat)))):=rfl
 have haE:aEid (x1,x2) = .agg [ai x1,ai x2]:=rfl
 rw[haE]
 by_cases hp:x1.toNat<ps.length
 ·have hg:=getD_map (f:=aPr) hp
  rw[nev_get hp] at hv
  generalize ps[x1.toNat]=y at *
  refine PC.enter 34 [.tmp 4] [2,3] Proofs.Tryz.func243 rfl rfl rfl rfl rfl (by simp) (AWp.of ?_);simp only[go_sem]
  refine Wk ?_
  refine AWp.seq ?_
  repeat(first|(with_reducible refine AWp.seq ?_)|(with_reducible refine AWp.block ?_))
  refine AWp.read mixed [0,1,2,3,4,5,6,7,8,9,10,11,12,13,14,15,16,17,18,19,20,21,22,23,24,25,26,27,28,29] (by kernel_rfl) ?_;simp only[go_sem,hg]
  refine⟨fun h1 h2 h3=>⟨⟨⟨h1,h2⟩,h3⟩,h1,h2⟩,fun h1 h2 h3=>⟨⟨⟨h1,h2⟩,h3⟩,hp⟩,?_⟩
  refine Wk ?_
  refine ret_eq ?_;simp only[go_sem]
  rw[hv,Bool.and_assoc,Bool.and_assoc]
 ·have hg:(ps.map aPr).getD x1.toNat .any = .any:=by rw[List.getD_eq_getElem?_getD,List.getElem?_eq_none (by rw[List.length_map];omega)];rfl
  have hx:¬(x1<ps.length)∨x1<0:=by omega
  refine PC.enter 34 [.tmp 4] [2,3] Proofs.Tryz.func243 rfl rfl rfl rfl rfl (by simp) (AWp.of ?_);simp only[go_sem]
  refine Wk ?_
  refine AWp.seq ?_
  have hnc:¬((0≤x1∧x1<ps.length)∧1≤x2):=by omega
  repeat(first|(with_reducible refine AWp.seq ?_)|(with_reducible refine AWp.block ?_))
  refine AWp.read mixed [0,1,2,3,4,5,6,7,8,9,10,11,12,13,14,15,16,17,18,19,20,21,22,23,24,25,26,27,28,29] (by kernel_rfl) ?_;simp only[go_sem,hg,List.getD_nil,hnc]
  refine Wk ?_
  refine ret_eq ?_;simp only[go_sem]
  have:(decide (0≤x1) && decide (x1<ps.length) && decide (1≤x2))=false:=by
   rw[← Bool.not_eq_true]
   simpa using hnc
  rw[hv,← Bool.and_assoc,← Bool.and_assoc,this];rfl
theorem causality_check1 (ps:List Pr) (hs:Sm ps) (x:Eid):PC Proofs.Tryz.prog 213 [aTr ps,.sl 2 [aEid x]] (ai (if validF ps=true then (if eidOk ps x=true then 0 else 2) else 1)):=by
 have h1:=trace_Valid ps hs
 have h2:=causality_exists ps hs x
 obtain⟨x1,x2⟩:=x
 have haE:aEid (x1,x2) = .agg [ai x1,ai x2]:=rfl
 rw[haE] at *
 cases hv:validF ps with
 | false =>
  rw[hv] at h1
  rw[if_neg (by decide)]
  refine PC.enter 21 [.tmp 4] [2,6] Proofs.Tryz.func213 rfl rfl rfl rfl rfl (by simp) (AWp.of ?_);simp only[go_sem]
  refine Wk ?_
  refine Sd ?_
  refine(h1).val.use ?_;simp only[go_sem]
  refine Wk ?_
  refine ret_eq ?_;simp only[go_sem]
 | true =>
  rw[hv] at h1
  rw[if_pos rfl]
  refine PC.enter 21 [.tmp 4] [2,6] Proofs.Tryz.func213 rfl rfl rfl rfl rfl (by simp) (AWp.of ?_);simp only[go_sem]
  refine Wk ?_
  refine Sd ?_
  refine(h1).val.use ?_;simp only[go_sem]
  refine Wk ?_
  refine AWp.range' 1 [] [2,10,11] (fun k vs L=>L=[]∧(k=0∨eidOk ps (x1,x2)=true)) (by omega) rfl rfl rfl ⟨rfl,.inl rfl⟩ ?_ ?_
  ·rintro k vs L hk - ⟨rfl,-⟩
   obtain rfl:k=0:=by omega
   simp only[go_sem]
   refine Wk ?_
   intro b6
   refine Wk ?_
   refine Sd ?_
   refine(h2).val.use ?_;simp only[go_sem]
   cases he:eidOk ps (x1,x2) with
   | true =>
    refine Wk ?_
    exact⟨_,List.Sublist.refl _,rfl⟩
   | false =>
    refine Wk ?_
    refine ret_eq ?_;simp only[go_sem]
  ·rintro vs L - ⟨rfl,h⟩
   rw[if_pos (h.resolve_left (by decide))]
   simp only[go_sem]
   refine Wk ?_
   refine ret_eq ?_;simp only[go_sem]
theorem causality_event (ps:List Pr) (hs:Sm ps) (p:Nat) (hp:p<ps.length) (i:Nat) (hi:i<ps[p].evs.length) (k1 k2:List Value) (v1 v2:List AV):PC Proofs.Tryz.prog 259 [.agg [.sl 3 (ps.map aPr),.rm k1 v1,.rm k2 v2],aEid (p,(i:Int)+1)] (aEv ps[p].evs[i]):=by
 have hel:=hs.evs _ (List.getElem_mem hp)
 have hgp:=getD_map (f:=aPr) hp
 have hge:=getD_map (f:=aEv) hi
 have hi1:(i:Int)+1 - 1=i:=by omega
 have haE:aEid ((p:Int),(i:Int)+1) = .agg [ai p,ai ((i:Int)+1)]:=rfl
 rw[haE]
 refine PC.enter 18 [.cell 4 65] [2,3] Proofs.Tryz.func259 rfl rfl rfl rfl rfl (by simp) (AWp.of ?_);simp only[go_sem]
 refine Wk ?_
 intro b4
 refine AWp.seq ?_
 repeat(first|(with_reducible refine AWp.seq ?_)|(with_reducible refine AWp.block ?_))
 refine AWp.mix mixed [0,1,2,3,4,5,6,7,8,9,10,11,12] (.step 13 .done .done) (by kernel_rfl) ?_;simp only[go_sem,hgp,hge,hi1]
 refine Sd ?_
 refine Wk ?_
 refine ret_view [] ?_;simp only[go_sem]
 exact .refl _
theorem causality_back (ps:List Pr) (hs:Sm ps) (hv:validF ps=true) (p:Nat) (hp:p<ps.length) (i:Nat) (hi:i<ps[p].evs.length):MCalls Proofs.Tryz.prog 244 [kwV ps,aEid (p,(i:Int)+1)] [] fun r L=>AppSt 72 2 ((dirL ps p i).map aEid) r L:=by
 have hm:=(valid_parts hv).2.2
 have hel:=hs.evs _ (List.getElem_mem hp)
 have hat:=causality_event ps hs p hp i hi (mapK (evM ps 2 (off ps ps.length))) (mapK (evM ps 3 (off ps ps.length))) (mapV (evM ps 2 (off ps ps.length))) (mapV (evM ps 3 (off ps ps.length)))
 have hd:dirL ps p i=(if 0<i then [((p:Int),(i:Int))] else []) ++ (if ps[p].evs[i].kind=3 then [sndr ps ps[p].evs[i].msg] else []):=by
  unfold dirL;rw[evq_get hp hi]
 have hmg:=fun h z=>mget_mem (z:=z) (evM_nodup hm (.inl rfl) (off ps ps.length)) (evM_sndr hm hp hi h)
 have hfk:=fits_int ps[p].evs[i].msg
 have hf2:=mapK_fits (evM ps 2 (off ps ps.length))
 have haE:aEid ((p:Int),(i:Int)+1) = .agg [ai p,ai ((i:Int)+1)]:=rfl
 have hi1:(i:Int)+1 - 1=i:=by omega
 rw[haE] at *
 simp only[intV] at hmg hfk
 rw[hd]
 unfold kwV
 clear hd
 generalize evM ps 2 (off ps ps.length)=M2 at *
 generalize evM ps 3 (off ps ps.length)=M3 at *
 generalize ps[p].evs[i]=e at *
 generalize sndr ps e.msg=sd at *
 obtain⟨s1,s2⟩:=sd
 have hsd:aEid (s1,s2) = .agg [ai s1,ai s2]:=rfl
 simp only[hsd] at hmg
 refine MCalls.enter' 34 [.tmp 4] [2,3,6,17,31] Proofs.Tryz.func244 rfl rfl rfl rfl rfl (by simp) (AWp.of ?_);simp only[go_sem]
 refine Wk ?_
 by_cases h2:e.kind=3
 ·have hmg:=hmg h2
  rw[if_pos h2]
  refine W1 hi1 ?_
  refine⟨fun h1 => ?_,fun h1 => ?_⟩
  ·rw[if_pos (show 0<i by omega)]
   refine W1 hi1 ?_
   intro b cap g1
   refine Wk ?_
   refine Sd ?_
   refine(hat).val.use ?_;simp only[go_sem]
   refine Wk ?_
   intro b6 g2
   refine W4 h2 hfk hf2 hmg ?_
   intro b3 cap3 g3
   refine Wk ?_
   refine ret_own ?_
   simp only[go_sem]
   rw[hi1]
   exact .row _ [_,_] _
  ·rw[if_neg (show ¬0<i by omega)]
   refine Wk ?_
   refine Sd ?_
   refine(hat).val.use ?_;simp only[go_sem]
   refine Wk ?_
   intro b6
   refine W4 h2 hfk hf2 hmg ?_
   intro b3 cap3 g3
   refine Wk ?_
   refine ret_own ?_
   simp only[go_sem]
   exact .row _ [_] _
 ·rw[if_neg h2]
  refine W1 hi1 ?_
  refine⟨fun h1 => ?_,fun h1 => ?_⟩
  ·rw[if_pos (show 0<i by omega)]
   refine W1 hi1 ?_
   intro b cap g1
   refine Wk ?_
   refine Sd ?_
   refine(hat).val.use ?_;simp only[go_sem]
   refine Wk ?_
   intro b6 g2
   refine W1 h2 ?_
   refine ret_own ?_
   simp only[go_sem]
   rw[hi1]
   exact .row _ [_] _
  ·rw[if_neg (show ¬0<i by omega)]
   refine Wk ?_
   refine Sd ?_
   refine(hat).val.use ?_;simp only[go_sem]
   refine Wk ?_
   intro b6
   refine W1 h2 ?_
   refine ret_own ?_
   simp only[go_sem]
   exact .nil
def Cov (d:List Int) (Q:List Eid) (z:Eid):Prop:=z.2≤cAt d z.1∨∃y ∈ Q,y.1=z.1∧z.2≤y.2
structure PastI (ps:List Pr) (x:Eid) (D d:List Int) (Q:List Eid):Prop where
 len:d.length=ps.length
 le:∀q:Nat,q<ps.length→0≤cAt d q∧cAt d q≤cAt D q
 q:∀y ∈ Q,VEv ps y∧y.2≤cAt D y.1
 cl:∀(q:Nat) (hq:q<ps.length) (k:Nat) (_:k<ps[q].evs.length),(k:Int)+1≤cAt d q→∀z ∈ dirL ps q k,Cov d Q z
 x:Cov d Q x
def pushL (ps:List Pr) (q n:Nat):Nat→List Eid
 | 0=>[]
 | m+1=>dirL ps q (n+m) ++ pushL ps q n m
theorem dirL_len (ps:List Pr) (q k:Nat):(dirL ps q k).length≤2:=by
 unfold dirL
 rw[List.length_append]
 split <;> split <;> simp
theorem pushL_len (ps:List Pr) (q n:Nat):∀m,(pushL ps q n m).length≤2 * m
 | 0=>Nat.le_refl _
 | m+1=>by
  have h1:=pushL_len ps q n m
  have h2:=dirL_len ps q (n+m)
  unfold pushL
  rw[List.length_append];omega
theorem mem_pushL {ps:List Pr} {q n:Nat} {z:Eid} : ∀ {m:Nat},z ∈ pushL ps q n m↔∃k,n≤k∧k<n+m∧z ∈ dirL ps q k
 | 0=>by simp [pushL];omega
 | m+1=>by
  have ih:=mem_pushL (ps:=ps) (q:=q) (n:=n) (z:=z) (m:=m)
  unfold pushL
  rw[List.mem_append,ih]
  constructor
  ·rintro(h|⟨k,h1,h2,h3⟩)
   ·exact⟨n+m,by omega,by omega,h⟩
   ·exact⟨k,h1,by omega,h3⟩
  ·rintro⟨k,h1,h2,h3⟩
   by_cases e:k=n+m
   ·subst e;exact .inl h3
   ·exact .inr ⟨k,h1,by omega,h3⟩
section
variable {ps:List Pr} (hv:validF ps=true) {x:Eid} {D d:List Int} {Q:List Eid} {y:Eid}
theorem past_skip (h:PastI ps x D d (y :: Q)) (hy:y.2≤cAt d y.1):PastI ps x D d Q:=by
 have hc:∀z,Cov d (y :: Q) z→Cov d Q z:=fun z hz=>by
  rcases hz with hz|⟨w,hw,e1,e2⟩
  ·exact .inl hz
  ·rcases List.mem_cons.1 hw with rfl|hw
   ·exact .inl (by rw[← e1];omega)
   ·exact .inr ⟨w,hw,e1,e2⟩
 exact⟨h.len,h.le,fun z hz=>h.q z (List.mem_cons_of_mem _ hz),fun q hq k hk hle z hz=>hc z (h.cl q hq k hk hle z hz),hc _ h.x⟩
include hv in
theorem past_take (hx:VEv ps x) (hD:isF ps D=true) {q j:Nat} (hq:q<ps.length) (hj:j<ps[q].evs.length) (h:PastI ps x D d (((q:Int),(j:Int)+1) :: Q)) (hy:cAt d q<(j:Int)+1) :
  PastI ps x D (d.set q ((j:Int)+1)) (Q ++ pushL ps q (cAt d q).toNat (j+1 - (cAt d q).toNat)):=by
 have hm:=(valid_parts hv).2.2
 obtain⟨Dl,Dr,Dc⟩:=isF_iff.1 hD
 have hDcl:=closed_iff.1 Dc
 have hl:=h.len
 have hdq:=h.le q hq
 have hjD:(j:Int)+1≤cAt D q:=(h.q _ List.mem_cons_self).2
 have hat:∀r:Nat,r<ps.length→cAt (d.set q ((j:Int)+1)) r=if q=r then (j:Int)+1 else cAt d r:=fun r hr=>setc_cAt (by omega)
 have hmon:∀r:Nat,r<ps.length→cAt d r≤cAt (d.set q ((j:Int)+1)) r:=fun r hr=>by
  rw[hat r hr];split
  ·rename_i e;subst e;omega
  ·exact Int.le_refl _
 have hc:∀z,VEv ps z→Cov d (((q:Int),(j:Int)+1) :: Q) z→Cov (d.set q ((j:Int)+1)) (Q ++ pushL ps q (cAt d q).toNat (j+1 - (cAt d q).toNat)) z:=by
  rintro z ⟨s,hs,t,ht,rfl⟩ hz
  rcases hz with hz|⟨w,hw,e1,e2⟩
  ·exact .inl (Int.le_trans hz (hmon s hs))
  ·rcases List.mem_cons.1 hw with rfl|hw
   ·simp only at e1 e2
    have:q=s:=by omega
    subst this
    refine .inl ?_
    simp only
    rw[hat q hq,if_pos rfl]
    exact e2
   ·exact .inr ⟨w,List.mem_append_left _ hw,e1,e2⟩
 refine⟨by rw[List.length_set];exact hl,fun r hr => ?_,fun z hz => ?_,fun r hr k hk hle z hz => ?_,?_⟩
 ·have:=h.le r hr
  rw[hat r hr];split
  ·rename_i e;subst e;omega
  ·exact this
 ·rcases List.mem_append.1 hz with hz|hz
  ·exact h.q z (List.mem_cons_of_mem _ hz)
  ·obtain⟨k,k1,k2,k3⟩:=mem_pushL.1 hz
   have hk:k<ps[q].evs.length:=by omega
   refine⟨((dirL_iff hm hq hk z).1 k3).1,?_⟩
   have hkD:(k:Int)+1≤cAt D q:=by omega
   unfold dirL at k3
   rw[evq_get hq hk] at k3
   rcases List.mem_append.1 k3 with k3|k3
   ·split at k3
    ·rw[List.mem_singleton.1 k3];simp only;omega
    ·cases k3
   ·split at k3
    ·rename_i hk3
     rw[List.mem_singleton.1 k3]
     exact hDcl q hq k hk hk3 hkD
    ·cases k3
 ·have hzv:VEv ps z:=((dirL_iff hm hr hk z).1 hz).1
  by_cases hold:(k:Int)+1≤cAt d r
  ·exact hc z hzv (h.cl r hr k hk hold z hz)
  ·rw[hat r hr] at hle
   split at hle
   ·rename_i e
    subst e
    exact .inr ⟨z,List.mem_append_right _ (mem_pushL.2 ⟨k,by omega,by omega,hz⟩),rfl,Int.le_refl _⟩
   ·omega
 ·exact hc x hx h.x
end
theorem set_sum:∀ {d:List Int} {q:Nat} {z:Int},q<d.length→(d.set q z).sum=d.sum+z - cAt d q
 | [],_,_,h=>by simp at h
 | a :: d,0,z,_=>by
  rw[List.set_cons_zero,List.sum_cons,List.sum_cons]
  have:cAt (a :: d) ((0:Nat):Int)=a:=rfl
  rw[this];omega
 | a :: d,q+1,z,h=>by
  have ih:=set_sum (d:=d) (q:=q) (z:=z) (by simpa using h)
  rw[List.set_cons_succ,List.sum_cons,List.sum_cons,ih]
  have:cAt (a :: d) ((q+1:Nat):Int)=cAt d q:=rfl
  rw[this];omega
def pastM (ps:List Pr) (d:List Int) (Q:List Eid):Nat:=3 * (off ps ps.length - d.sum.toNat)+Q.length
theorem past_sum {ps:List Pr} {x:Eid} {D d:List Int} {Q:List Eid} (hD:isF ps D=true) (h:PastI ps x D d Q):0≤d.sum∧d.sum≤off ps ps.length:=by
 have hDl:=(isF_iff.1 hD).1
 have hl:=h.len
 have hle:leqF d D=true:=leq_iff_at.2 ⟨by omega,fun p hp=>(h.le p (by omega)).2⟩
 have h1:=(leq_sum hle).1
 have h2:=sum_le_off hD
 refine⟨sum_nonneg d fun z hz => ?_,by omega⟩
 obtain⟨q,hq,rfl⟩:=List.getElem_of_mem hz
 have:=(h.le q (by omega)).1
 rwa [cAt_nat hq] at this
theorem past_less {ps:List Pr} {x:Eid} {D d d':List Int} {Q:List Eid} {q:Nat} {z:Int} {m:Nat} (hD:isF ps D=true) (h:PastI ps x D d ((q,z) :: Q)) (h':PastI ps x D d' (Q ++ pushL ps q (cAt d q).toNat m)) (hd:d'=d.set q z) (hq:q<ps.length) (hm:(m:Int)=z - cAt d q) (hlt:cAt d q<z) :
  pastM ps d' (Q ++ pushL ps q (cAt d q).toNat m)<pastM ps d ((q,z) :: Q):=by
 have h1:=past_sum hD h
 have h2:=past_sum hD h'
 have h3:=pushL_len ps q (cAt d q).toNat m
 have h4:=set_sum (d:=d) (q:=q) (z:=z) (by rw[h.len];exact hq)
 rw[← hd] at h4
 unfold pastM
 rw[List.length_append,List.length_cons]
 omega
theorem past_zero {ps:List Pr} (hv:validF ps=true) {p:Nat} (hp:p<ps.length) {i:Nat} (hi:i<ps[p].evs.length):PastI ps ((p:Int),(i:Int)+1) (ptF ps p i) (List.replicate ps.length 0) [((p:Int),(i:Int)+1)]:=by
 obtain⟨Dl,Dr,_⟩:=isF_iff.1 (pt_is hv hp hi)
 have hz:∀q:Nat,q<ps.length→cAt (List.replicate ps.length 0) q=0:=fun q hq=>by rw[cAt_nat (by simp;exact hq)];simp
 refine⟨by simp,fun q hq => ?_,fun y hy => ?_,fun q hq k hk hle => ?_,.inr ⟨_,by simp,rfl,Int.le_refl _⟩⟩
 ·rw[hz q hq]
  exact⟨Int.le_refl _,((inRange_iff Dl).1 Dr q hq).1⟩
 ·rw[List.mem_singleton.1 hy]
  exact⟨⟨p,hp,i,hi,rfl⟩,pt_has hv hp hi⟩
 ·rw[hz q hq] at hle;omega
theorem past_done {ps:List Pr} (hv:validF ps=true) {p:Nat} (hp:p<ps.length) {i:Nat} (hi:i<ps[p].evs.length) {d:List Int} (h:PastI ps ((p:Int),(i:Int)+1) (ptF ps p i) d []):d=ptF ps p i:=by
 obtain⟨Dl,Dr,_⟩:=isF_iff.1 (pt_is hv hp hi)
 have hl:=h.len
 have hcov:∀z,Cov d [] z→z.2≤cAt d z.1:=fun z hz=>by
  rcases hz with hz|⟨y,hy,_⟩
  ·exact hz
  ·cases hy
 have hd:isF ps d=true:=by
  refine isF_iff.2 ⟨hl,(inRange_iff hl).2 fun q hq => ?_,closed_iff.2 fun q hq k hk hk3 hle => ?_⟩
  ·have h1:=h.le q hq
   have h2:=((inRange_iff Dl).1 Dr q hq).2
   omega
  ·refine hcov _ (h.cl q hq k hk hle _ ?_)
   unfold dirL
   rw[evq_get hq hk,if_pos hk3]
   exact List.mem_append_right _ (List.mem_singleton.2 rfl)
 have hls:=pt_least hv hp hd (hcov _ h.x)
 apply List.ext_getElem (by omega)
 intro q h1 h2
 rw[← cAt_nat h1,← cAt_nat h2]
 have:=hls q (by omega)
 have:=(h.le q (by omega)).2
 omega
end Go.AL
end
