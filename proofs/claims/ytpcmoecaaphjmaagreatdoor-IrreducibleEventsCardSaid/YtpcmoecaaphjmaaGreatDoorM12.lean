/- Texts of this claim's proof: WOb, WOc, WOd. No condition. -/
import Derived.Test.YtpcmoecaaphjmaaGreatDoorM11
import Derived.Test.YtpcmoecaaphjmaaGreatDoorM7
import Derived.Test.YtpcmoecaaphjmaaGreatDoorM10
section
namespace Go.AL
open Go Go.RowKit
set_option maxRecDepth 4000
def mapK (M:List (Int × Eid)):List Value:=(M.map (·.1)).map intV
def mapV (M:List (Int × Eid)):List AV:=M.map fun x=>aEid x.2
theorem mapK_none {m:Int} {M:List (Int × Eid)} (h:∀x ∈ M,x.1 ≠ m):mfind (intV m) (mapK M)=none:=by
 obtain⟨h1,_⟩:=mfind_iset m (M.map (·.1))
 have h2:decide (m ∈ M.map (·.1))=false:=decide_eq_false fun hm=>by
  obtain⟨x,hx,e⟩:=List.mem_map.1 hm
  exact h x hx e
 rw[h2] at h1
 unfold mapK
 cases hf:mfind (intV m) ((M.map (·.1)).map intV) with
 | none=>rfl
 | some i=>rw[hf] at h1;cases h1
theorem mput_new {m:Int} {e:Eid} {M:List (Int × Eid)} (h:∀x ∈ M,x.1 ≠ m):mput (intV m) (aEid e) (mapK M) (mapV M) = .amap (mapK (M ++ [(m,e)])) (mapV (M ++ [(m,e)])):=by
 unfold mput
 rw[mapK_none h]
 simp [mapK,mapV]
theorem mapK_fits (M:List (Int × Eid)):(mapK M).all (KK.sc .int).fits=true:=fits_iset _
theorem mget_mem {m:Int} {e:Eid} {z:AV} : ∀ {M:List (Int × Eid)},(M.map (·.1)).Nodup→(m,e) ∈ M→mget (intV m) (mapK M) (mapV M) z=aEid e
 | [],_,h=>by cases h
 | y :: M,hn,h=>by
  rw[List.map_cons,List.nodup_cons] at hn
  have hk:keyB (intV m) (intV y.1)=decide (m=y.1):=rfl
  unfold mget mapK mapV
  simp only[List.map_cons,mfind,hk,decide_eq_true_eq]
  rcases List.mem_cons.1 h with rfl|h
  ·rw[if_pos rfl];rfl
  ·have hne:¬m=y.1:=fun e2=>hn.1 (by rw[← e2];exact List.mem_map.2 ⟨_,h,rfl⟩)
   rw[if_neg hne]
   have ih:=mget_mem (z:=z) hn.2 h
   unfold mget mapK mapV at ih
   cases hf:mfind (intV m) ((M.map (·.1)).map intV) with
   | none =>
    obtain⟨h1,_⟩:=mfind_iset m (M.map (·.1))
    rw[hf,decide_eq_true (List.mem_map.2 ⟨_,h,rfl⟩)] at h1
    cases h1
   | some i =>
    rw[hf] at ih
    exact ih
def evM (ps:List Pr) (κ:Int) (k:Nat):List (Int × Eid):=((evIds ps).take k).filterMap fun x=>if x.2.kind=κ then some (x.2.msg,x.1) else none
theorem evM_succ {ps:List Pr} {κ:Int} {k:Nat} {x:Eid × Ev} (hx:(evIds ps)[k]?=some x):evM ps κ (k+1)=evM ps κ k ++ if x.2.kind=κ then [(x.2.msg,x.1)] else []:=by
 obtain⟨hk,he⟩:=List.getElem?_eq_some_iff.1 hx
 unfold evM
 rw[List.take_succ_eq_append_getElem hk,List.filterMap_append,he]
 congr 1
 by_cases h:x.2.kind=κ
 ·simp [h]
 ·simp [h]
theorem evM_mem {ps:List Pr} {κ:Int} {k:Nat} {y:Int × Eid} (hy:y ∈ evM ps κ k):∃(p:Nat) (hp:p<ps.length) (i:Nat) (_:i<ps[p].evs.length),off ps p+i<k∧ps[p].evs[i].kind=κ∧y=(ps[p].evs[i].msg,((p:Int),(i:Int)+1)):=by
 unfold evM at hy
 rw[List.mem_filterMap] at hy
 obtain⟨x,hx,h⟩:=hy
 obtain⟨j,hj,hje⟩:=List.mem_take_iff_getElem.1 hx
 have hjx:(evIds ps)[j]?=some x:=by rw[List.getElem?_eq_getElem (by omega),hje]
 obtain⟨p,hp,i,hi,e1,e2⟩:=evIds_inv hjx
 split at h
 ·rename_i hk
  cases h
  subst e2
  exact⟨p,hp,i,hi,by omega,hk,rfl⟩
 ·cases h
theorem evM_new {ps:List Pr} (hm:msgF ps=none) {κ:Int} (hκ:κ=2∨κ=3) {p:Nat} (hp:p<ps.length) {i:Nat} (hi:i<ps[p].evs.length) (hk:ps[p].evs[i].kind=κ):∀y ∈ evM ps κ (off ps p+i),y.1 ≠ ps[p].evs[i].msg:=by
 intro y hy e
 obtain⟨q,hq,j,hj,hlt,hkq,rfl⟩:=evM_mem hy
 simp only at e
 have u1:=pair_unique hm hp hi (by omega)
 have u2:=pair_unique hm hq hj (by omega)
 rw[hk] at u1
 rw[hkq,e,u1] at u2
 obtain⟨a1,a2⟩:=Prod.mk.inj u2
 have hpq:p=q:=by omega
 subst hpq
 omega
theorem evM_nodup {ps:List Pr} (hm:msgF ps=none) {κ:Int} (hκ:κ=2∨κ=3):∀k,((evM ps κ k).map (·.1)).Nodup
 | 0=>by simp [evM]
 | k+1=>by
  have ih:=evM_nodup hm hκ k
  cases hx:(evIds ps)[k]? with
  | none =>
   have:evM ps κ (k+1)=evM ps κ k:=by
    unfold evM
    rw[List.take_of_length_le (by have:=List.getElem?_eq_none_iff.1 hx;omega),List.take_of_length_le (by have:=List.getElem?_eq_none_iff.1 hx;omega)]
   rw[this];exact ih
  | some x =>
   rw[evM_succ hx]
   obtain⟨p,hp,i,hi,e1,rfl⟩:=evIds_inv hx
   by_cases h:ps[p].evs[i].kind=κ
   ·have hnew:=evM_new hm hκ hp hi h
    rw[if_pos h,List.map_append,List.nodup_append]
    refine⟨ih,by simp,fun a ha b hb => ?_⟩
    obtain⟨y,hy,rfl⟩:=List.mem_map.1 ha
    have:b=ps[p].evs[i].msg:=by simpa using hb
    subst this
    rw[e1] at hy
    exact hnew y hy
   ·rw[if_neg h,List.append_nil];exact ih
theorem evM_sndr {ps:List Pr} (hm:msgF ps=none) {p:Nat} (hp:p<ps.length) {i:Nat} (hi:i<ps[p].evs.length) (hk:ps[p].evs[i].kind=3):(ps[p].evs[i].msg,sndr ps ps[p].evs[i].msg) ∈ evM ps 2 (off ps ps.length):=by
 obtain⟨s,hs,j,hj,e,k2,m2⟩:=sndr_some (recv_sndr hm hp hi hk)
 unfold evM
 rw[List.mem_filterMap]
 have hg:=evIds_get hs hj
 refine⟨_,List.mem_take_iff_getElem.2 ⟨off ps s+j,?_,(List.getElem?_eq_some_iff.1 hg).2⟩,?_⟩
 ·have:=(List.getElem?_eq_some_iff.1 hg).1
  rw[evIds_length] at this
  rw[evIds_length];omega
 ·simp only
  rw[if_pos k2,m2,e]
def kwV (ps:List Pr):AV:=.agg [.sl 3 (ps.map aPr),.rm (mapK (evM ps 2 (off ps ps.length))) (mapV (evM ps 2 (off ps ps.length))),.rm (mapK (evM ps 3 (off ps ps.length))) (mapV (evM ps 3 (off ps ps.length)))]
def kwL (ps:List Pr) (b11 b10 b2 k:Nat):AHeap:=[(b11,.amap (mapK (evM ps 3 k)) (mapV (evM ps 3 k))),(b10,.amap (mapK (evM ps 2 k)) (mapV (evM ps 2 k))),(b2,.row 108 3 [.agg [anil,.v (.map none),.v (.map none)]] 1)]
theorem causality_knows (ps:List Pr) (hs:Sm ps) (hv:validF ps=true):PC Proofs.Tryz.prog 61 [aTr ps] (kwV ps):=by
 obtain⟨hl1,hl8⟩:=valid_len hv
 have hm:=(valid_parts hv).2.2
 refine PC.enter 52 [.cell 2 108] [1,3,5,7,8] Proofs.Tryz.func61 rfl rfl rfl rfl rfl (by simp) (AWp.of ?_);simp only[go_sem]
 intro b2
 refine Wk ?_
 intro b10 g10 b11 g11a g11b
 have n1:¬b10=b11:=by omega
 have n2:¬b2=b11:=by omega
 have n3:¬b2=b10:=by omega
 have n4:¬b11=b10:=by omega
 refine W4 n1 n2 n3 n4 ?_
 intros
 refine W4 n1 n2 n3 n4 ?_
 refine AWp.range' ps.length [] [2,3,14,15] (fun p vs L=>L=kwL ps b11 b10 b2 (off ps p)) (by omega) rfl rfl rfl rfl ?_ ?_
 ·rintro p vs L hp - rfl
  have hgp:=getD_map (f:=aPr) hp
  have hel:=hs.evs _ (List.getElem_mem hp)
  have hos:=off_succ hp
  simp only[go_sem]
  refine W1 hgp ?_
  intro b5 g5
  clear g5
  refine Wk ?_
  refine AWp.range' ps[p].evs.length [] [2,3,4,14,15,16,22,23] (fun i vs L=>L=kwL ps b11 b10 b2 (off ps p+i)) (by omega) rfl rfl rfl rfl ?_ ?_
  ·rintro i vs L hi - rfl
   have hge:=getD_map (f:=aEv) hi
   have hev:=evIds_get hp hi
   have s2:=evM_succ (κ:=2) hev
   have s3:=evM_succ (κ:=3) hev
   have w2:=evM_new hm (κ:=2) (.inl rfl) hp hi
   have w3:=evM_new hm (κ:=3) (.inr rfl) hp hi
   simp only at s2 s3
   have hkw:kwL ps b11 b10 b2 (off ps p+(i+1))=[(b11,.amap (mapK (evM ps 3 (off ps p+i+1))) (mapV (evM ps 3 (off ps p+i+1)))),(b10,.amap (mapK (evM ps 2 (off ps p+i+1))) (mapV (evM ps 2 (off ps p+i+1)))),(b2,.row 108 3 [.agg [anil,.v (.map none),.v (.map none)]] 1)]:=rfl
   have hkw0:kwL ps b11 b10 b2 (off ps p+i)=[(b11,.amap (mapK (evM ps 3 (off ps p+i))) (mapV (evM ps 3 (off ps p+i)))),(b10,.amap (mapK (evM ps 2 (off ps p+i))) (mapV (evM ps 2 (off ps p+i)))),(b2,.row 108 3 [.agg [anil,.v (.map none),.v (.map none)]] 1)]:=rfl
   rw[hkw0]
   have hfk:=fits_int ps[p].evs[i].msg
   have hf2:=mapK_fits (evM ps 2 (off ps p+i))
   have hf3:=mapK_fits (evM ps 3 (off ps p+i))
   have m2:=fun h=>mput_new (e:=((p:Int),(i:Int)+1)) (w2 h)
   have m3:=fun h=>mput_new (e:=((p:Int),(i:Int)+1)) (w3 h)
   simp only[intV,aEid] at m2 m3 hfk
   clear w2 w3 hkw0 hev
   generalize evM ps 2 (off ps p+i+1)=M2' at *
   generalize evM ps 3 (off ps p+i+1)=M3' at *
   generalize evM ps 2 (off ps p+i)=M2 at *
   generalize evM ps 3 (off ps p+i)=M3 at *
   generalize ps[p].evs[i]=e at *
   simp only[go_sem]
   refine W1 hge ?_
   intros
   refine Wk ?_
   intros
   refine W6 n1 n2 n3 n4 hfk hf2 ?_
   refine⟨fun h2 => ?_,fun h2 => ?_⟩
   ·rw[if_pos h2] at s2
    rw[if_neg (by omega),List.append_nil] at s3
    refine Sd ?_
    refine⟨_,List.Sublist.refl _,?_⟩
    rw[hkw,s2,s3,m2 h2]
   ·rw[if_neg h2,List.append_nil] at s2
    refine W6 n1 n2 n3 n4 hfk hf3 ?_
    refine⟨fun h3 => ?_,fun h3 => ?_⟩
    ·rw[if_pos h3] at s3
     refine Sd ?_
     refine⟨_,List.Sublist.refl _,?_⟩
     rw[hkw,s2,s3,m3 h3]
    ·rw[if_neg h3,List.append_nil] at s3
     refine Wk ?_
     refine⟨_,List.Sublist.refl _,?_⟩
     rw[hkw,s2,s3]
  ·rintro vs L - rfl
   rw[← hos]
   simp only[go_sem]
   exact⟨_,List.Sublist.refl _,rfl⟩
 ·rintro vs L - rfl
  unfold kwL
  simp only[go_sem]
  refine W4 n1 n2 n3 n4 ?_
  refine ret_view [true,true,true] ?_;simp only[go_sem]
  simp only[go_sem,n1,n2,n3,n4]
  exact .mkAgg (Vws.cons (.refl _) (Vws.cons (.lm (by simp only[lk,n1,if_false,if_true]) rfl (fun i x y h1 h2=>by rw[h1] at h2;cases h2;exact .refl _)) (Vws.cons (.lm (if_pos rfl) rfl (fun i x y h1 h2=>by rw[h1] at h2;cases h2;exact .refl _)) .nil)))
def eidOk (ps:List Pr) (x:Eid):Bool:=decide (0≤x.1) && (decide (x.1<ps.length) && (decide (1≤x.2) && decide (x.2≤nev ps x.1.toNat)))
theorem eidOk_iff {ps:List Pr} {x:Eid} : eidOk ps x=true↔VEv ps x:=by
 unfold eidOk
 simp only[Bool.and_eq_true,decide_eq_true_eq]
 constructor
 ·rintro⟨h1,h2,h3,h4⟩
  have hp:x.1.toNat<ps.length:=by omega
  rw[nev_get hp] at h4
  exact⟨x.1.toNat,hp,x.2.toNat - 1,by omega,Prod.ext (by simp;omega) (by simp;omega)⟩
 ·rintro⟨p,hp,i,hi,rfl⟩
  have:((p:Int)).toNat=p:=by omega
  simp only[this]
  rw[nev_get hp]
  omega
theorem causality_exists (ps:List Pr) (hs:Sm ps) (x:Eid):PC Proofs.Tryz.prog 107 [aTr ps,aEid x] (ab (eidOk ps x)):=by
 have hel:∀(p:Nat) (hp:p<ps.length),ps[p].evs.length≤1000000:=fun p hp=>hs.evs _ (List.getElem_mem hp)
 obtain⟨x1,x2⟩:=x
 have hv:eidOk ps (x1,x2)=(decide (0≤x1) && (decide (x1<ps.length) && (decide (1≤x2) && decide (x2≤nev ps x1.toNat)))):=rfl
 have haE:aEid (x1,x2) = .agg [ai x1,ai x2]:=rfl
 rw[haE]
 by_cases hp:x1.toNat<ps.length
 ·have hg:=getD_map (f:=aPr) hp
  rw[nev_get hp] at hv
  generalize ps[x1.toNat]=y at *
  refine PC.enter 34 [.tmp 4] [2,3] Proofs.Tryz.func107 rfl rfl rfl rfl rfl (by simp) (AWp.of ?_);simp only[go_sem]
  refine Wk ?_
  refine AWp.seq ?_
  repeat(first|(with_reducible refine AWp.seq ?_)|(with_reducible refine AWp.block ?_))
  refine AWp.read mixed [0,1,2,3,4,5,6,7,8,9,10,11,12,13,14,15,16,17,18,19,20,21,22,23,24,25,26,27,28,29] (by kernel_rfl) ?_;simp only[go_sem,hg]
  refine⟨fun h1 h2 h3=>⟨⟨⟨h1,h2⟩,h3⟩,h1,h2⟩,fun h1 h2 h3=>⟨⟨⟨h1,h2⟩,h3⟩,hp⟩,?_⟩
  refine Wk ?_
  refine ret_eq ?_;simp only[go_sem]
  rw[hv,Bool.and_assoc,Bool.and_assoc]
 ·have hg:(ps.map aPr).getD x1.toNat .any = .any:=by rw[List.getD_eq_getElem?_getD,List.getElem?_eq_none (by rw[List.length_map];omega)];rfl
  have hx:¬(x1<ps.length)∨x1<0:=by omega
  refine PC.enter 34 [.tmp 4] [2,3] Proofs.Tryz.func107 rfl rfl rfl rfl rfl (by simp) (AWp.of ?_);simp only[go_sem]
  refine Wk ?_
  refine AWp.seq ?_
  have hnc:¬((0≤x1∧x1<ps.length)∧1≤x2):=by omega
  repeat(first|(with_reducible refine AWp.seq ?_)|(with_reducible refine AWp.block ?_))
  refine AWp.read mixed [0,1,2,3,4,5,6,7,8,9,10,11,12,13,14,15,16,17,18,19,20,21,22,23,24,25,26,27,28,29] (by kernel_rfl) ?_;simp only[go_sem,hg,List.getD_nil,hnc]
  refine Wk ?_
  refine ret_eq ?_;simp only[go_sem]
  have:(decide (0≤x1) && decide (x1<ps.length) && decide (1≤x2))=false:=by
   rw[← Bool.not_eq_true]
   simpa using hnc
  rw[hv,← Bool.and_assoc,← Bool.and_assoc,this];rfl
theorem causality_check1 (ps:List Pr) (hs:Sm ps) (x:Eid):PC Proofs.Tryz.prog 60 [aTr ps,.sl 2 [aEid x]] (ai (if validF ps=true then (if eidOk ps x=true then 0 else 2) else 1)):=by
 have h1:=trace_Valid ps hs
 have h2:=causality_exists ps hs x
 obtain⟨x1,x2⟩:=x
 have haE:aEid (x1,x2) = .agg [ai x1,ai x2]:=rfl
 rw[haE] at *
 cases hv:validF ps with
 | false =>
  rw[hv] at h1
  rw[if_neg (by decide)]
  refine PC.enter 21 [.tmp 4] [2,6] Proofs.Tryz.func60 rfl rfl rfl rfl rfl (by simp) (AWp.of ?_);simp only[go_sem]
  refine Wk ?_
  refine Sd ?_
  refine(h1).val.use ?_;simp only[go_sem]
  refine Wk ?_
  refine ret_eq ?_;simp only[go_sem]
 | true =>
  rw[hv] at h1
  rw[if_pos rfl]
  refine PC.enter 21 [.tmp 4] [2,6] Proofs.Tryz.func60 rfl rfl rfl rfl rfl (by simp) (AWp.of ?_);simp only[go_sem]
  refine Wk ?_
  refine Sd ?_
  refine(h1).val.use ?_;simp only[go_sem]
  refine Wk ?_
  refine AWp.range' 1 [] [2,10,11] (fun k vs L=>L=[]∧(k=0∨eidOk ps (x1,x2)=true)) (by omega) rfl rfl rfl ⟨rfl,.inl rfl⟩ ?_ ?_
  ·rintro k vs L hk - ⟨rfl,-⟩
   obtain rfl:k=0:=by omega
   simp only[go_sem]
   refine Wk ?_
   intro b6
   refine Wk ?_
   refine Sd ?_
   refine(h2).val.use ?_;simp only[go_sem]
   cases he:eidOk ps (x1,x2) with
   | true =>
    refine Wk ?_
    exact⟨_,List.Sublist.refl _,rfl⟩
   | false =>
    refine Wk ?_
    refine ret_eq ?_;simp only[go_sem]
  ·rintro vs L - ⟨rfl,h⟩
   rw[if_pos (h.resolve_left (by decide))]
   simp only[go_sem]
   refine Wk ?_
   refine ret_eq ?_;simp only[go_sem]
theorem causality_event (ps:List Pr) (hs:Sm ps) (p:Nat) (hp:p<ps.length) (i:Nat) (hi:i<ps[p].evs.length) (k1 k2:List Value) (v1 v2:List AV):PC Proofs.Tryz.prog 181 [.agg [.sl 3 (ps.map aPr),.rm k1 v1,.rm k2 v2],aEid (p,(i:Int)+1)] (aEv ps[p].evs[i]):=by
 have hel:=hs.evs _ (List.getElem_mem hp)
 have hgp:=getD_map (f:=aPr) hp
 have hge:=getD_map (f:=aEv) hi
 have hi1:(i:Int)+1 - 1=i:=by omega
 have haE:aEid ((p:Int),(i:Int)+1) = .agg [ai p,ai ((i:Int)+1)]:=rfl
 rw[haE]
 refine PC.enter 18 [.cell 4 79] [2,3] Proofs.Tryz.func181 rfl rfl rfl rfl rfl (by simp) (AWp.of ?_);simp only[go_sem]
 refine Wk ?_
 intro b4
 refine AWp.seq ?_
 repeat(first|(with_reducible refine AWp.seq ?_)|(with_reducible refine AWp.block ?_))
 refine AWp.mix mixed [0,1,2,3,4,5,6,7,8,9,10,11,12] (.step 13 .done .done) (by kernel_rfl) ?_;simp only[go_sem,hgp,hge,hi1]
 refine Sd ?_
 refine Wk ?_
 refine ret_view [] ?_;simp only[go_sem]
 exact .refl _
theorem causality_back (ps:List Pr) (hs:Sm ps) (hv:validF ps=true) (p:Nat) (hp:p<ps.length) (i:Nat) (hi:i<ps[p].evs.length):MCalls Proofs.Tryz.prog 108 [kwV ps,aEid (p,(i:Int)+1)] [] fun r L=>AppSt 29 2 ((dirL ps p i).map aEid) r L:=by
 have hm:=(valid_parts hv).2.2
 have hel:=hs.evs _ (List.getElem_mem hp)
 have hat:=causality_event ps hs p hp i hi (mapK (evM ps 2 (off ps ps.length))) (mapK (evM ps 3 (off ps ps.length))) (mapV (evM ps 2 (off ps ps.length))) (mapV (evM ps 3 (off ps ps.length)))
 have hd:dirL ps p i=(if 0<i then [((p:Int),(i:Int))] else []) ++ (if ps[p].evs[i].kind=3 then [sndr ps ps[p].evs[i].msg] else []):=by
  unfold dirL;rw[evq_get hp hi]
 have hmg:=fun h z=>mget_mem (z:=z) (evM_nodup hm (.inl rfl) (off ps ps.length)) (evM_sndr hm hp hi h)
 have hfk:=fits_int ps[p].evs[i].msg
 have hf2:=mapK_fits (evM ps 2 (off ps ps.length))
 have haE:aEid ((p:Int),(i:Int)+1) = .agg [ai p,ai ((i:Int)+1)]:=rfl
 have hi1:(i:Int)+1 - 1=i:=by omega
 rw[haE] at *
 simp only[intV] at hmg hfk
 rw[hd]
 unfold kwV
 clear hd
 generalize evM ps 2 (off ps ps.length)=M2 at *
 generalize evM ps 3 (off ps ps.length)=M3 at *
 generalize ps[p].evs[i]=e at *
 generalize sndr ps e.msg=sd at *
 obtain⟨s1,s2⟩:=sd
 have hsd:aEid (s1,s2) = .agg [ai s1,ai s2]:=rfl
 simp only[hsd] at hmg
 refine MCalls.enter' 34 [.tmp 4] [2,3,6,17,31] Proofs.Tryz.func108 rfl rfl rfl rfl rfl (by simp) (AWp.of ?_);simp only[go_sem]
 refine Wk ?_
 by_cases h2:e.kind=3
 ·have hmg:=hmg h2
  rw[if_pos h2]
  refine W1 hi1 ?_
  refine⟨fun h1 => ?_,fun h1 => ?_⟩
  ·rw[if_pos (show 0<i by omega)]
   refine W1 hi1 ?_
   intro b cap g1
   refine Wk ?_
   refine Sd ?_
   refine(hat).val.use ?_;simp only[go_sem]
   refine Wk ?_
   intro b6 g2
   refine W4 h2 hfk hf2 hmg ?_
   intro b3 cap3 g3
   refine Wk ?_
   refine ret_own ?_
   simp only[go_sem]
   rw[hi1]
   exact .row _ [_,_] _
  ·rw[if_neg (show ¬0<i by omega)]
   refine Wk ?_
   refine Sd ?_
   refine(hat).val.use ?_;simp only[go_sem]
   refine Wk ?_
   intro b6
   refine W4 h2 hfk hf2 hmg ?_
   intro b3 cap3 g3
   refine Wk ?_
   refine ret_own ?_
   simp only[go_sem]
   exact .row _ [_] _
 ·rw[if_neg h2]
  refine W1 hi1 ?_
  refine⟨fun h1 => ?_,fun h1 => ?_⟩
  ·rw[if_pos (show 0<i by omega)]
   refine W1 hi1 ?_
   intro b cap g1
   refine Wk ?_
   refine Sd ?_
   refine(hat).val.use ?_;simp only[go_sem]
   refine Wk ?_
   intro b6 g2
   refine W1 h2 ?_
   refine ret_own ?_
   simp only[go_sem]
   rw[hi1]
   exact .row _ [_] _
  ·rw[if_neg (show ¬0<i by omega)]
   refine Wk ?_
   refine Sd ?_
   refine(hat).val.use ?_;simp only[go_sem]
   refine Wk ?_
   intro b6
   refine W1 h2 ?_
   refine ret_own ?_
   simp only[go_sem]
   exact .nil
def Cov (d:List Int) (Q:List Eid) (z:Eid):Prop:=z.2≤cAt d z.1∨∃y ∈ Q,y.1=z.1∧z.2≤y.2
structure PastI (ps:List Pr) (x:Eid) (D d:List Int) (Q:List Eid):Prop where
 len:d.length=ps.length
 le:∀q:Nat,q<ps.length→0≤cAt d q∧cAt d q≤cAt D q
 q:∀y ∈ Q,VEv ps y∧y.2≤cAt D y.1
 cl:∀(q:Nat) (hq:q<ps.length) (k:Nat) (_:k<ps[q].evs.length),(k:Int)+1≤cAt d q→∀z ∈ dirL ps q k,Cov d Q z
 x:Cov d Q x
def pushL (ps:List Pr) (q n:Nat):Nat→List Eid
 | 0=>[]
 | m+1=>dirL ps q (n+m) ++ pushL ps q n m
theorem dirL_len (ps:List Pr) (q k:Nat):(dirL ps q k).length≤2:=by
 unfold dirL
 rw[List.length_append]
 split <;> split <;> simp
theorem pushL_len (ps:List Pr) (q n:Nat):∀m,(pushL ps q n m).length≤2 * m
 | 0=>Nat.le_refl _
 | m+1=>by
  have h1:=pushL_len ps q n m
  have h2:=dirL_len ps q (n+m)
  unfold pushL
  rw[List.length_append];omega
theorem mem_pushL {ps:List Pr} {q n:Nat} {z:Eid} : ∀ {m:Nat},z ∈ pushL ps q n m↔∃k,n≤k∧k<n+m∧z ∈ dirL ps q k
 | 0=>by simp [pushL];omega
 | m+1=>by
  have ih:=mem_pushL (ps:=ps) (q:=q) (n:=n) (z:=z) (m:=m)
  unfold pushL
  rw[List.mem_append,ih]
  constructor
  ·rintro(h|⟨k,h1,h2,h3⟩)
   ·exact⟨n+m,by omega,by omega,h⟩
   ·exact⟨k,h1,by omega,h3⟩
  ·rintro⟨k,h1,h2,h3⟩
   by_cases e:k=n+m
   ·subst e;exact .inl h3
   ·exact .inr ⟨k,h1,by omega,h3⟩
section
variable {ps:List Pr} (hv:validF ps=true) {x:Eid} {D d:List Int} {Q:List Eid} {y:Eid}
theorem past_skip (h:PastI ps x D d (y :: Q)) (hy:y.2≤cAt d y.1):PastI ps x D d Q:=by
 have hc:∀z,Cov d (y :: Q) z→Cov d Q z:=fun z hz=>by
  rcases hz with hz|⟨w,hw,e1,e2⟩
  ·exact .inl hz
  ·rcases List.mem_cons.1 hw with rfl|hw
   ·exact .inl (by rw[← e1];omega)
   ·exact .inr ⟨w,hw,e1,e2⟩
 exact⟨h.len,h.le,fun z hz=>h.q z (List.mem_cons_of_mem _ hz),fun q hq k hk hle z hz=>hc z (h.cl q hq k hk hle z hz),hc _ h.x⟩
include hv in
theorem past_take (hx:VEv ps x) (hD:isF ps D=true) {q j:Nat} (hq:q<ps.length) (hj:j<ps[q].evs.length) (h:PastI ps x D d (((q:Int),(j:Int)+1) :: Q)) (hy:cAt d q<(j:Int)+1) :
  PastI ps x D (d.set q ((j:Int)+1)) (Q ++ pushL ps q (cAt d q).toNat (j+1 - (cAt d q).toNat)):=by
 have hm:=(valid_parts hv).2.2
 obtain⟨Dl,Dr,Dc⟩:=isF_iff.1 hD
 have hDcl:=closed_iff.1 Dc
 have hl:=h.len
 have hdq:=h.le q hq
 have hjD:(j:Int)+1≤cAt D q:=(h.q _ List.mem_cons_self).2
 have hat:∀r:Nat,r<ps.length→cAt (d.set q ((j:Int)+1)) r=if q=r then (j:Int)+1 else cAt d r:=fun r hr=>setc_cAt (by omega)
 have hmon:∀r:Nat,r<ps.length→cAt d r≤cAt (d.set q ((j:Int)+1)) r:=fun r hr=>by
  rw[hat r hr];split
  ·rename_i e;subst e;omega
  ·exact Int.le_refl _
 have hc:∀z,VEv ps z→Cov d (((q:Int),(j:Int)+1) :: Q) z→Cov (d.set q ((j:Int)+1)) (Q ++ pushL ps q (cAt d q).toNat (j+1 - (cAt d q).toNat)) z:=by
  rintro z ⟨s,hs,t,ht,rfl⟩ hz
  rcases hz with hz|⟨w,hw,e1,e2⟩
  ·exact .inl (Int.le_trans hz (hmon s hs))
  ·rcases List.mem_cons.1 hw with rfl|hw
   ·simp only at e1 e2
    have:q=s:=by omega
    subst this
    refine .inl ?_
    simp only
    rw[hat q hq,if_pos rfl]
    exact e2
   ·exact .inr ⟨w,List.mem_append_left _ hw,e1,e2⟩
 refine⟨by rw[List.length_set];exact hl,fun r hr => ?_,fun z hz => ?_,fun r hr k hk hle z hz => ?_,?_⟩
 ·have:=h.le r hr
  rw[hat r hr];split
  ·rename_i e;subst e;omega
  ·exact this
 ·rcases List.mem_append.1 hz with hz|hz
  ·exact h.q z (List.mem_cons_of_mem _ hz)
  ·obtain⟨k,k1,k2,k3⟩:=mem_pushL.1 hz
   have hk:k<ps[q].evs.length:=by omega
   refine⟨((dirL_iff hm hq hk z).1 k3).1,?_⟩
   have hkD:(k:Int)+1≤cAt D q:=by omega
   unfold dirL at k3
   rw[evq_get hq hk] at k3
   rcases List.mem_append.1 k3 with k3|k3
   ·split at k3
    ·rw[List.mem_singleton.1 k3];simp only;omega
    ·cases k3
   ·split at k3
    ·rename_i hk3
     rw[List.mem_singleton.1 k3]
     exact hDcl q hq k hk hk3 hkD
    ·cases k3
 ·have hzv:VEv ps z:=((dirL_iff hm hr hk z).1 hz).1
  by_cases hold:(k:Int)+1≤cAt d r
  ·exact hc z hzv (h.cl r hr k hk hold z hz)
  ·rw[hat r hr] at hle
   split at hle
   ·rename_i e
    subst e
    exact .inr ⟨z,List.mem_append_right _ (mem_pushL.2 ⟨k,by omega,by omega,hz⟩),rfl,Int.le_refl _⟩
   ·omega
 ·exact hc x hx h.x
end
theorem set_sum:∀ {d:List Int} {q:Nat} {z:Int},q<d.length→(d.set q z).sum=d.sum+z - cAt d q
 | [],_,_,h=>by simp at h
 | a :: d,0,z,_=>by
  rw[List.set_cons_zero,List.sum_cons,List.sum_cons]
  have:cAt (a :: d) ((0:Nat):Int)=a:=rfl
  rw[this];omega
 | a :: d,q+1,z,h=>by
  have ih:=set_sum (d:=d) (q:=q) (z:=z) (by simpa using h)
  rw[List.set_cons_succ,List.sum_cons,List.sum_cons,ih]
  have:cAt (a :: d) ((q+1:Nat):Int)=cAt d q:=rfl
  rw[this];omega
def pastM (ps:List Pr) (d:List Int) (Q:List Eid):Nat:=3 * (off ps ps.length - d.sum.toNat)+Q.length
theorem past_sum {ps:List Pr} {x:Eid} {D d:List Int} {Q:List Eid} (hD:isF ps D=true) (h:PastI ps x D d Q):0≤d.sum∧d.sum≤off ps ps.length:=by
 have hDl:=(isF_iff.1 hD).1
 have hl:=h.len
 have hle:leqF d D=true:=leq_iff_at.2 ⟨by omega,fun p hp=>(h.le p (by omega)).2⟩
 have h1:=(leq_sum hle).1
 have h2:=sum_le_off hD
 refine⟨sum_nonneg d fun z hz => ?_,by omega⟩
 obtain⟨q,hq,rfl⟩:=List.getElem_of_mem hz
 have:=(h.le q (by omega)).1
 rwa [cAt_nat hq] at this
theorem past_less {ps:List Pr} {x:Eid} {D d d':List Int} {Q:List Eid} {q:Nat} {z:Int} {m:Nat} (hD:isF ps D=true) (h:PastI ps x D d ((q,z) :: Q)) (h':PastI ps x D d' (Q ++ pushL ps q (cAt d q).toNat m)) (hd:d'=d.set q z) (hq:q<ps.length) (hm:(m:Int)=z - cAt d q) (hlt:cAt d q<z) :
  pastM ps d' (Q ++ pushL ps q (cAt d q).toNat m)<pastM ps d ((q,z) :: Q):=by
 have h1:=past_sum hD h
 have h2:=past_sum hD h'
 have h3:=pushL_len ps q (cAt d q).toNat m
 have h4:=set_sum (d:=d) (q:=q) (z:=z) (by rw[h.len];exact hq)
 rw[← hd] at h4
 unfold pastM
 rw[List.length_append,List.length_cons]
 omega
theorem past_zero {ps:List Pr} (hv:validF ps=true) {p:Nat} (hp:p<ps.length) {i:Nat} (hi:i<ps[p].evs.length):PastI ps ((p:Int),(i:Int)+1) (ptF ps p i) (List.replicate ps.length 0) [((p:Int),(i:Int)+1)]:=by
 obtain⟨Dl,Dr,_⟩:=isF_iff.1 (pt_is hv hp hi)
 have hz:∀q:Nat,q<ps.length→cAt (List.replicate ps.length 0) q=0:=fun q hq=>by rw[cAt_nat (by simp;exact hq)];simp
 refine⟨by simp,fun q hq => ?_,fun y hy => ?_,fun q hq k hk hle => ?_,.inr ⟨_,by simp,rfl,Int.le_refl _⟩⟩
 ·rw[hz q hq]
  exact⟨Int.le_refl _,((inRange_iff Dl).1 Dr q hq).1⟩
 ·rw[List.mem_singleton.1 hy]
  exact⟨⟨p,hp,i,hi,rfl⟩,pt_has hv hp hi⟩
 ·rw[hz q hq] at hle;omega
theorem past_done {ps:List Pr} (hv:validF ps=true) {p:Nat} (hp:p<ps.length) {i:Nat} (hi:i<ps[p].evs.length) {d:List Int} (h:PastI ps ((p:Int),(i:Int)+1) (ptF ps p i) d []):d=ptF ps p i:=by
 obtain⟨Dl,Dr,_⟩:=isF_iff.1 (pt_is hv hp hi)
 have hl:=h.len
 have hcov:∀z,Cov d [] z→z.2≤cAt d z.1:=fun z hz=>by
  rcases hz with hz|⟨y,hy,_⟩
  ·exact hz
  ·cases hy
 have hd:isF ps d=true:=by
  refine isF_iff.2 ⟨hl,(inRange_iff hl).2 fun q hq => ?_,closed_iff.2 fun q hq k hk hk3 hle => ?_⟩
  ·have h1:=h.le q hq
   have h2:=((inRange_iff Dl).1 Dr q hq).2
   omega
  ·refine hcov _ (h.cl q hq k hk hle _ ?_)
   unfold dirL
   rw[evq_get hq hk,if_pos hk3]
   exact List.mem_append_right _ (List.mem_singleton.2 rfl)
 have hls:=pt_least hv hp hd (hcov _ h.x)
 apply List.ext_getElem (by omega)
 intro q h1 h2
 rw[← cAt_nat h1,← cAt_nat h2]
 have:=hls q (by omega)
 have:=(h.le q (by omega)).2
 omega
def QS (b5 n:Nat) (d:List Int) (Q:List Eid) (v:AV) (L:AHeap):Prop :=
 ∃b off cap xs,(¬b=b5∧¬b5=b)∧v = .ls b 2 off Q.length cap∧L=[(b,.row 29 2 xs (off+cap)),(b5,.row 3 1 (d.map ai) n)]∧off+Q.length≤xs.length∧(xs.drop off).take Q.length=Q.map aEid
theorem drop_take_app {α:Type} {xs ys:List α} {o n:Nat} (h:o+n≤xs.length):(xs.take (o+n) ++ ys).drop o=(xs.drop o).take n ++ ys:=by
 rw[List.drop_append_of_le_length (by rw[List.length_take];omega),List.drop_take,show o+n - o=n by omega]
theorem QS.back {b5 n:Nat} {d:List Int} {Q Z:List Eid} {b cap off:Nat} {xs:List AV} (h1:¬b=b5) (hl:off+Q.length≤xs.length) (ht:(xs.drop off).take Q.length=Q.map aEid) :
  QS b5 n d (Q ++ Z) (.ls b 2 off (Q ++ Z).length cap) [(b,.row 29 2 (xs.take (off+Q.length) ++ Z.map aEid) (off+cap)),(b5,.row 3 1 (d.map ai) n)]:=by
 refine⟨b,off,cap,_,⟨h1,fun e=>h1 e.symm⟩,rfl,rfl,?_,?_⟩
 ·rw[List.length_append,List.length_append,List.length_take,List.length_map];omega
 ·rw[drop_take_app hl,ht,← List.map_append,List.take_of_length_le (by rw[List.length_map];exact Nat.le_refl _)]
theorem QS.anew {b5 n:Nat} {d:List Int} {Q Z:List Eid} {b cap off:Nat} {xs:List AV} (h1:¬b=b5) (ht:(xs.drop off).take Q.length=Q.map aEid) :
  QS b5 n d (Q ++ Z) (.ls b 2 0 (Q ++ Z).length cap) [(b,.row 29 2 ((xs.drop off).take Q.length ++ Z.map aEid) cap),(b5,.row 3 1 (d.map ai) n)]:=by
 refine⟨b,0,cap,(Q ++ Z).map aEid,⟨h1,fun e=>h1 e.symm⟩,rfl,by rw[ht,← List.map_append,Nat.zero_add],by rw[List.length_map];omega,?_⟩
 rw[List.drop_zero,List.take_of_length_le (by rw[List.length_map];exact Nat.le_refl _)]
theorem MVal.nd {P:Program} {g:AV} {args:List AV} {L:AHeap} {K:AV→AHeap→Prop} (h:MVal P g args L K):MVal P g args L fun r L'=>(L'.map (·.1)).Nodup∧K r L' :=
 fun n w A gv vs h1 h2 h3=>(h n w A gv vs h1 h2 h3).mono fun _ _ ⟨v,r,L',A',e1,hK,hf,hA,hL,hr⟩=>⟨v,r,L',A',e1,⟨hL.nodup,hK⟩,hf,hA,hL,hr⟩
theorem causality_past (ps:List Pr) (hs:Sm ps) (hv:validF ps=true) (p:Nat) (hp:p<ps.length) (i:Nat) (hi:i<ps[p].evs.length):PC Proofs.Tryz.prog 62 [kwV ps,aEid (p,(i:Int)+1)] (aInts (ptF ps p i)):=by
 have hbk:=fun (q:Nat) (hq:q<ps.length) (j:Nat) (hj:j<ps[q].evs.length)=>causality_back ps hs hv q hq j hj
 have hof:=off_small hs ps.length (Nat.le_refl _)
 have h8:=(valid_len hv).2
 have hel:∀(q:Nat) (hq:q<ps.length),ps[q].evs.length≤1000000:=fun q hq=>hs.evs _ (List.getElem_mem hq)
 have hD:=pt_is hv hp hi
 have hP0:=past_zero hv hp hi
 have hdone:=fun d=>past_done hv hp hi (d:=d)
 have hx:VEv ps ((p:Int),(i:Int)+1):=⟨p,hp,i,hi,rfl⟩
 have hDl:=(isF_iff.1 hD).1
 have hDr:=(inRange_iff hDl).1 (isF_iff.1 hD).2.1
 unfold kwV at hbk ⊢
 generalize mapK (evM ps 2 (off ps ps.length))=K2 at *
 generalize mapV (evM ps 2 (off ps ps.length))=V2 at *
 generalize mapK (evM ps 3 (off ps ps.length))=K3 at *
 generalize mapV (evM ps 3 (off ps ps.length))=V3 at *
 have haE:∀(u w:Int),aEid (u,w) = .agg [ai u,ai w]:=fun _ _=>rfl
 rw[haE]
 generalize hDD:ptF ps p i=D at *
 refine PC.enter 58 [.tmp 4] [2,3,7] Proofs.Tryz.func62 rfl rfl rfl rfl rfl (by simp) (AWp.of ?_);simp only[go_sem]
 refine Wk ?_
 intro b5
 refine Wk ?_
 intro bq gq
 refine Wk ?_
 have n1:¬bq=b5:=by omega
 refine AWp.seq (AWp.block (AWp.loopN [6] [2,5] (fun m vs L=>∃(d:List Int) (Q:List Eid) (v:AV),vs=[v]∧PastI ps ((p:Int),(i:Int)+1) D d Q∧m=pastM ps d Q∧m≤3 * off ps ps.length+1∧QS b5 ps.length d Q v L) (pastM ps (List.replicate ps.length 0) [((p:Int),(i:Int)+1)]) ?_ ?_))
 ·refine⟨List.replicate ps.length 0,[((p:Int),(i:Int)+1)],_,rfl,hP0,rfl,?_,bq,0,1,[aEid ((p:Int),(i:Int)+1)],⟨n1,fun e=>n1 e.symm⟩,rfl,?_,Nat.le_refl _,rfl⟩
  ·unfold pastM
   simp
  ·rw[List.map_replicate];rfl
 rintro m vs L - ⟨d,Q,v,rfl,hI,rfl,hM,b,off,cap,xs,⟨d1,d2⟩,rfl,rfl,hl,ht⟩
 have hdl:=hI.len
 simp only[go_sem]
 refine AWp.capOk (b:=b) (if_pos rfl) fun hcap => ?_
 cases Q with
 | nil =>
  have hz:¬(0:Int)<((0:Nat):Int):=by omega
  have hde:=hdone d hI
  repeat(first|((with_reducible refine AWp.ofC ?_ ?_);exact rfl;simp only[go_sem,List.length_nil,hz])|((with_reducible refine an ?_ ?_);exact Au))
  refine ret_view [false,true] ?_;simp only[go_sem]
  rw[hde]
  exact Vw.ofLs (if_pos rfl) (by rw[List.length_map];omega)
 | cons y Q =>
  obtain⟨⟨q,hq,j,hj,rfl⟩,hyD⟩:=hI.q _ List.mem_cons_self
  have hM2:(((q:Int),(j:Int)+1) :: Q).length≤24000001:=by unfold pastM at hM;omega
  have hgt:(0:Int)<(((((q:Int),(j:Int)+1) :: Q).length:Nat):Int):=by rw[List.length_cons];omega
  have hx0:xs.getD off .any = .agg [ai q,ai ((j:Int)+1)]:=by
   have h0:((xs.drop off).take (((q:Int),(j:Int)+1) :: Q).length)[0]?=some (aEid ((q:Int),(j:Int)+1)):=by rw[ht];rfl
   rw[List.getElem?_take,if_pos (by rw[List.length_cons];omega),List.getElem?_drop,Nat.add_zero] at h0
   rw[List.getD_eq_getElem?_getD,h0];rfl
  have hl2:off+1+Q.length≤xs.length:=by rw[List.length_cons] at hl;omega
  have ht2:(xs.drop (off+1)).take Q.length=Q.map aEid:=by
   have:((xs.drop off).take (Q.length+1)).drop 1=(xs.drop (off+1)).take Q.length:=by
    rw[List.drop_take,List.drop_drop,show Q.length+1 - 1=Q.length by omega]
   rw[← this]
   rw[List.length_cons] at ht
   rw[ht];rfl
  have hqd:q<d.length:=by omega
  have hgd:=getD_map (f:=ai) hqd
  have hcq:=cAt_nat hqd
  rw[List.length_cons] at hl
  have hgt:(0:Int)<((Q.length+1:Nat):Int):=by omega
  have hls:((Q.length+1:Nat):Int).toNat - (1:Int).toNat=Q.length:=by omega
  repeat(first|((with_reducible refine AWp.ofC ?_ ?_);exact rfl;simp only[go_sem,List.length_cons,hgt,hx0])|((with_reducible refine an ?_ ?_);exact Au))
  intro b7 g7a g7b
  clear g7a g7b
  repeat(first|((with_reducible refine AWp.ofC ?_ ?_);exact rfl;simp only[go_sem,Nat.add_sub_cancel])|((with_reducible refine an ?_ ?_);exact Au))
  have hQ:QS b5 ps.length d Q (.ls b 2 (off+1) Q.length (cap - 1)) [(b,.row 29 2 xs (off+cap)),(b5,.row 3 1 (d.map ai) ps.length)] :=
   ⟨b,off+1,cap - 1,xs,⟨d1,d2⟩,rfl,by rw[show off+1+(cap - 1)=off+cap by omega],hl2,ht2⟩
  refine AWp.seq (AWp.seq ?_)
  repeat(first|(with_reducible refine AWp.seq ?_)|(with_reducible refine AWp.block ?_))
  refine AWp.read mixed [0,1,2,3,4,5,6,7] (by kernel_rfl) ?_;simp only[go_sem,hgd,d1,d2]
  refine Sd ?_
  refine Wk ?_
  refine⟨fun hge => ?_,fun hlt => ?_⟩
  ·refine Wk ?_
   have hsk:=past_skip hI (by show (j:Int)+1≤cAt d q;omega)
   refine⟨_,List.Sublist.refl _,_,?_,d,Q,_,rfl,hsk,rfl,?_,hQ⟩
   ·unfold pastM;rw[List.length_cons];omega
   ·unfold pastM at hM ⊢;rw[List.length_cons] at hM;omega
  ·have hdq:=hI.le q hq
   have hlt':cAt d q<(j:Int)+1:=by omega
   have hnx:=past_take hv hx hD hq hj hI hlt'
   have hls:=past_less (m:=j+1 - (cAt d q).toNat) hD hI hnx rfl hq (by omega) hlt'
   have hel2:=hel q hq
   generalize hn0:(cAt d q).toNat=n0 at *
   have hdn:d[q]=(n0:Int):=by omega
   generalize hm0:j+1 - n0=m0 at *
   have hjm:(j:Int)+1=((n0+m0:Nat):Int):=by omega
   have hQl:Q.length≤24000001:=by rw[List.length_cons] at hM2;omega
   clear hl hl2 ht ht2 hx0 hcap hgt
   refine Wk ?_
   rw[hjm]
   refine AWp.block (AWp.loopN [6,8] [2,5,7] (fun m vs L=>∃(A:List Eid) (v:AV),vs=[v,ai ((n0+m:Nat):Int)]∧m≤m0∧A ++ pushL ps q n0 m=pushL ps q n0 m0∧QS b5 ps.length d (Q ++ A) v L) m0 ⟨[],_,rfl,Nat.le_refl _,rfl,by rw[List.append_nil];exact hQ⟩ ?_)
   clear hQ d1 d2
   rintro m vs L - ⟨A,v,rfl,hmm,hA,b,off,cap,xs,⟨d1,d2⟩,rfl,rfl,hl,ht⟩
   simp only[go_sem]
   refine AWp.capOk (b:=b) (if_pos rfl) fun hcap => ?_
   cases m with
   | zero =>
    have hz:¬((n0:Int)<((n0+0:Nat):Int)):=by omega
    repeat(first|((with_reducible refine AWp.ofC ?_ ?_);exact rfl;simp only[go_sem,hgd,hdn,d1,d2,Nat.add_zero,Int.lt_irrefl])|((with_reducible refine an ?_ ?_);exact Au))
    rw[hjm] at hls hnx hM
    have hA2:A=pushL ps q n0 m0:=by
     have:pushL ps q n0 0=[]:=rfl
     rw[this,List.append_nil] at hA;exact hA
    subst hA2
    refine⟨_,List.Sublist.refl _,_,hls,d.set q ((n0+m0:Nat):Int),Q ++ pushL ps q n0 m0,_,rfl,hnx,rfl,?_,b,off,cap,xs,⟨d1,d2⟩,rfl,?_,hl,ht⟩
    ·omega
    ·rw[List.map_set]
   | succ m =>
    have hgt:(n0:Int)<((n0+m:Nat):Int)+1:=by omega
    have hcast:((n0+(m+1):Nat):Int)=((n0+m:Nat):Int)+1:=by omega
    have hb:=hbk q hq (n0+m) (by omega)
    rw[haE] at hb
    rw[hcast]
    refine W5 hgd hdn d1 d2 hgt ?_
    refine Sd ?_
    have hQA:(Q ++ A).length≤100000000:=by
     have h1:=pushL_len ps q n0 m0
     have h2:=congrArg List.length hA
     rw[List.length_append] at h2 ⊢
     omega
    have hdl2:=dirL_len ps q (n0+m)
    refine(MVal.nd (MVal.frame (Lm:=[]) (Lr:=[(b,.row 29 2 xs (off+cap)),(b5,.row 3 1 (d.map ai) ps.length)]) hb.val)).mono ?_
    rintro r L' ⟨hnd,Ln,rfl,hAn⟩
    have hfo:=hAn.fo
    have hcons:A ++ dirL ps q (n0+m) ++ pushL ps q n0 m=pushL ps q n0 m0:=by rw[List.append_assoc];exact hA
    have hass:Q ++ A ++ dirL ps q (n0+m)=Q ++ (A ++ dirL ps q (n0+m)):=List.append_assoc _ _ _
    generalize dirL ps q (n0+m)=Z at *
    generalize hQA2:Q ++ A=QA at *
    rcases hAn.inv with ⟨e1,rfl,rfl⟩|⟨bn,capn,rfl,rfl⟩
    ·have e1:Z=[]:=List.map_eq_nil_iff.1 e1
     subst e1
     cases off with
     | zero =>
      simp only[go_sem,hfo]
      refine Sd ?_
      intro b' cap' g1 g2
      have n7:¬b'=b5:=by omega
      repeat(first|((with_reducible refine AWp.ofC ?_ ?_);exact rfl;simp only[go_sem,Int.add_sub_cancel])|((with_reducible refine an ?_ ?_);exact Au))
      refine⟨_,List.Sublist.refl _,m,by omega,A ++ [],_,rfl,by omega,hcons,?_⟩
      have:=QS.anew (Z:=[]) (cap:=cap') (d:=d) (n:=ps.length) n7 ht
      rw[← hass]
      simpa using this
     | succ off =>
      simp only[go_sem,hfo]
      refine Sd ?_
      refine⟨fun g0 => ?_,fun b' cap' g1 g2 g3 => ?_⟩
      ·repeat(first|((with_reducible refine AWp.ofC ?_ ?_);exact rfl;simp only[go_sem,Int.add_sub_cancel])|((with_reducible refine an ?_ ?_);exact Au))
       refine⟨_,List.Sublist.refl _,m,by omega,A ++ [],_,rfl,by omega,hcons,?_⟩
       have:=QS.back (Z:=[]) (cap:=cap) (d:=d) (n:=ps.length) d1 hl ht
       rw[← hass]
       simpa using this
      ·repeat(first|((with_reducible refine AWp.ofC ?_ ?_);exact rfl;simp only[go_sem,Int.add_sub_cancel])|((with_reducible refine an ?_ ?_);exact Au))
       have n7:¬b'=b5:=by omega
       refine⟨_,List.Sublist.refl _,m,by omega,A ++ [],_,rfl,by omega,hcons,?_⟩
       have:=QS.anew (Z:=[]) (cap:=cap') (d:=d) (n:=ps.length) n7 ht
       rw[← hass]
       simpa using this
    ·have hbn:¬b=bn∧¬b5=bn:=by
      simp only[List.singleton_append,List.map_cons,List.map_nil,List.nodup_cons,List.mem_cons] at hnd
      exact⟨fun e=>hnd.1 (.inl e.symm),fun e=>hnd.1 (.inr (.inl e.symm))⟩
     obtain⟨n3,n4⟩:=hbn
     have n5:¬bn=b:=fun e=>n3 e.symm
     have n6:¬bn=b5:=fun e=>n4 e.symm
     cases off with
     | zero =>
      simp only[go_sem,hfo,n3,n4,n5,n6,d1,d2]
      refine Sd ?_
      intro b' cap' g1 g2 g3
      have n7:¬b'=b5:=by omega
      repeat(first|((with_reducible refine AWp.ofC ?_ ?_);exact rfl;simp only[go_sem,Int.add_sub_cancel])|((with_reducible refine an ?_ ?_);exact Au))
      refine⟨[_,_],.cons_cons _ (.cons _ (.refl _)),m,by omega,A ++ Z,_,rfl,by omega,hcons,?_⟩
      have:=QS.anew (Z:=Z) (cap:=cap') (d:=d) (n:=ps.length) n7 ht
      rw[← hass]
      simpa using this
     | succ off =>
      simp only[go_sem,hfo,n3,n4,n5,n6,d1,d2]
      refine Sd ?_
      refine⟨fun g0 => ?_,fun b' cap' g1 g2 g3 g4 => ?_⟩
      ·repeat(first|((with_reducible refine AWp.ofC ?_ ?_);exact rfl;simp only[go_sem,Int.add_sub_cancel])|((with_reducible refine an ?_ ?_);exact Au))
       refine⟨[_,_],.cons _ (.refl _),m,by omega,A ++ Z,_,rfl,by omega,hcons,?_⟩
       have:=QS.back (Z:=Z) (cap:=cap) (d:=d) (n:=ps.length) d1 hl ht
       rw[← hass]
       simpa using this
      ·repeat(first|((with_reducible refine AWp.ofC ?_ ?_);exact rfl;simp only[go_sem,Int.add_sub_cancel])|((with_reducible refine an ?_ ?_);exact Au))
       have n7:¬b'=b5:=by omega
       refine⟨[_,_],.cons_cons _ (.cons _ (.refl _)),m,by omega,A ++ Z,_,rfl,by omega,hcons,?_⟩
       have:=QS.anew (Z:=Z) (cap:=cap') (d:=d) (n:=ps.length) n7 ht
       rw[← hass]
       simpa using this
end Go.AL
end
