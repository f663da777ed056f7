/- Texts of this claim's proof: WK12, WK8, WK13, WK14, WK17. No condition. -/
import Derived.Test.YtpcmoecaaphjmaaGreatDoorM25
import Derived.Test.YtpcmoecaaphjmaaGreatDoorM9
import Derived.Test.YtpcmoecaaphjmaaGreatDoorM10
section
namespace Go.AL
open Go Go.RowKit
set_option maxRecDepth 4000
def kyL (c:List Int):List Int:=c ++ List.replicate (8 - c.length) 0
def kyA (c:List Int):AV:=.agg ((kyL c).map ai)
def kyV (c:List Int):Value:=.agg ((kyL c).map (Value.int .i64)).toArray
theorem flatVs_ints:∀l:List Int,flatVs (l.map ai)=some (l.map (Value.int .i64))
 | []=>rfl
 | x :: l=>by
  rw[List.map_cons,flatVs,flatVs_ints l];rfl
theorem ky_shape (c:List Int):∃X V,kyA c = .agg X∧flatVs X=some V∧Value.agg V.toArray=kyV c:=⟨_,_,rfl,flatVs_ints _,rfl⟩
theorem kyL_len {c:List Int} (h:c.length≤8):(kyL c).length=8:=by
 unfold kyL
 rw[List.length_append,List.length_replicate];omega
theorem vfits_ints:∀l:List Int,vfitss (List.replicate l.length .int) (l.map (Value.int .i64))=true
 | []=>rfl
 | x :: l=>by
  rw[List.length_cons,List.replicate_succ,List.map_cons,vfitss,vfits_ints l];rfl
theorem ky_fits {c:List Int} (h:c.length≤8):(KK.st [.int,.int,.int,.int,.int,.int,.int,.int]).fits (kyV c)=true:=by
 have:=vfits_ints (kyL c)
 rw[kyL_len h] at this
 show vfitss _ ((kyL c).map (Value.int .i64)).toArray.toList=true
 exact this
theorem veqs_ints:∀a b:List Int,a.length=b.length→veqs (a.map (Value.int .i64)) (b.map (Value.int .i64))=decide (a=b)
 | [],[],_=>rfl
 | x :: a,y :: b,h=>by
  rw[List.map_cons,List.map_cons,veqs,veqs_ints a b (by simpa using h)]
  show (decide (x=y) && decide (a=b))=_
  rw[Bool.eq_iff_iff]
  simp
 | [],_ :: _,h=>by simp at h
 | _ :: _,[],h=>by simp at h
theorem ky_eq {a b:List Int} (h:a.length=b.length) (h8:a.length≤8):keyB (kyV a) (kyV b)=decide (a=b):=by
 show veqs ((kyL a).map (Value.int .i64)).toArray.toList ((kyL b).map (Value.int .i64)).toArray.toList=_
 have:=veqs_ints (kyL a) (kyL b) (by rw[kyL_len h8,kyL_len (by omega)])
 rw[show ((kyL a).map (Value.int .i64)).toArray.toList=(kyL a).map (Value.int .i64) from rfl,show ((kyL b).map (Value.int .i64)).toArray.toList=(kyL b).map (Value.int .i64) from rfl,this,decide_eq_decide]
 unfold kyL
 rw[h]
 exact⟨fun e=>(List.append_inj e h).1,fun e=>by rw[e]⟩
theorem mfind_ky (c:List Int) (h8:c.length≤8):∀D:List (List Int),(∀d ∈ D,d.length=c.length)→(mfind (kyV c) (D.map kyV)=none↔c ∉ D)∧∀i,mfind (kyV c) (D.map kyV)=some i→i<D.length
 | [],_=>⟨by simp [mfind],fun i h=>by simp [mfind] at h⟩
 | d :: D,hD=>by
  obtain⟨ih1,ih2⟩:=mfind_ky c h8 D fun x hx=>hD x (List.mem_cons_of_mem _ hx)
  rw[List.map_cons,mfind,ky_eq (hD d (by simp)).symm h8]
  by_cases e:c=d
  ·rw[decide_eq_true e,if_pos rfl]
   exact⟨⟨fun h=>(by cases h),fun h=>absurd (by rw[e];simp) h⟩,fun i h=>by cases h;simp⟩
  ·rw[decide_eq_false e,if_neg (by decide)]
   cases hm:mfind (kyV c) (D.map kyV) with
   | none =>
    rw[hm] at ih1
    refine⟨⟨fun _ h => ?_,fun _=>rfl⟩,fun i h=>by cases h⟩
    rcases List.mem_cons.1 h with h|h
    ·exact e h
    ·exact(ih1.1 rfl) h
   | some j =>
    rw[hm] at ih1 ih2
    refine⟨⟨fun h=>(by cases h),fun h => ?_⟩,fun i h=>by cases h;have:=ih2 j rfl;rw[List.length_cons];omega⟩
    have:c ∉ D:=fun h'=>h (List.mem_cons_of_mem _ h')
    exact absurd (ih1.2 this) (by simp)
theorem mget_ky (c:List Int) (h8:c.length≤8) (D:List (List Int)) (hD:∀d ∈ D,d.length=c.length):mget (kyV c) (D.map kyV) (D.map fun _=>ab true) (ab false)=ab (decide (c ∈ D)):=by
 obtain⟨h1,h2⟩:=mfind_ky c h8 D hD
 unfold mget
 cases hm:mfind (kyV c) (D.map kyV) with
 | none=>rw[decide_eq_false (h1.1 hm)]
 | some i =>
  have hi:=h2 i hm
  have:c ∈ D:=Decidable.byContradiction fun h=>by rw[h1.2 h] at hm;cases hm
  rw[decide_eq_true this]
  exact getD_map (f:=fun _=>ab true) hi
theorem mput_ky (c:List Int) (h8:c.length≤8) (D:List (List Int)) (hD:∀d ∈ D,d.length=c.length) (hn:c ∉ D):mput (kyV c) (ab true) (D.map kyV) (D.map fun _=>ab true) = .amap ((D ++ [c]).map kyV) ((D ++ [c]).map fun _=>ab true):=by
 obtain⟨h1,h2⟩:=mfind_ky c h8 D hD
 unfold mput
 rw[h1.2 hn,List.map_append,List.map_append]
 rfl
theorem irr_key (c:List Int) (h8:c.length≤8):PC Proofs.Tryz.prog 110 [aInts c] (kyA c):=by
 have hC:aInts c = .sl 1 (c.map ai):=rfl
 rw[hC]
 refine PC.enter 8 [.cell 2 156] [] Proofs.Tryz.func110 rfl rfl rfl rfl rfl (by simp) (AWp.of ?_);simp only[go_sem]
 have hfl:[ai 0,ai 0,ai 0,ai 0,ai 0,ai 0,ai 0,ai 0]=[[ai 0],[ai 0],[ai 0],[ai 0],[ai 0],[ai 0],[ai 0],[ai 0]].flatten:=rfl
 refine⟨hfl,?_⟩
 intro b2
 refine Wk ?_
 intro b3 g3
 have n1:¬b2=b3:=by omega
 have n2:¬b3=b2:=by omega
 refine Sd ?_
 refine AWp.foldArr (j:=2) (b:=b2) (n:=8) (cs:=[ai 0,ai 0,ai 0,ai 0,ai 0,ai 0,ai 0,ai 0]) rfl (by simp only[go_sem,n1,n2];rfl) rfl rfl ?_
 simp only[go_sem,n1,n2]
 refine Sd ?_
 refine AWp.of ?_;simp only[go_sem,n1,n2]
 refine AOp.sliceArr (t:=156) (e:=3) (n:=8) (b:=b3) (cs:=[ai 0,ai 0,ai 0,ai 0,ai 0,ai 0,ai 0,ai 0]) rfl (by simp only[go_sem];rfl) (by simp only[go_sem];rfl) (fun i hi=>by cases hi;decide) rfl (by simp only[go_sem,n1,n2];rfl) (by decide) ?_
 simp only[go_sem,n1,n2]
 have hk:List.map ai (List.take (min c.length 8) c) ++ List.drop (List.take (min c.length 8) c).length [AV.v (.int .i64 0),AV.v (.int .i64 0),AV.v (.int .i64 0),AV.v (.int .i64 0),AV.v (.int .i64 0),AV.v (.int .i64 0),AV.v (.int .i64 0),AV.v (.int .i64 0)]=(kyL c).map ai:=by
  rw[Nat.min_eq_left h8,List.take_length]
  show _ ++ List.drop c.length (List.replicate 8 (ai 0))=_
  rw[List.drop_replicate]
  unfold kyL
  rw[List.map_append,List.map_replicate]
 rw[hk]
 have hlen:((kyL c).map ai).length=8:=by rw[List.length_map,kyL_len h8]
 have hone:((kyL c).map ai).all one=true:=by
  rw[List.all_eq_true]
  intro x hx
  obtain⟨z,_,rfl⟩:=List.mem_map.1 hx
  rfl
 have htk:((kyL c).map ai).take 8=(kyL c).map ai:=List.take_of_length_le (by omega)
 unfold kyA
 generalize (kyL c).map ai=KK at *
 refine AWp.foldArr (j:=3) (b:=b3) (n:=8) (cs:=KK) rfl (by simp only[go_sem,n1,n2];rfl) hlen hone ?_
 simp only[go_sem,n1,n2]
 refine W4 n1 n2 htk hlen ?_
 refine ret_eq ?_;simp only[go_sem,n1,n2,htk,hlen]
end Go.AL
end
section
namespace Go.AL
open Go Go.RowKit Go.Sort Go.Proofs
set_option maxRecDepth 4000
def cmpC (a b:List Int):Int:=if a.sum - b.sum=0 then cmpL a b else a.sum - b.sum
theorem cmpC_irr (a:List Int):cmpC a a=0:=by unfold cmpC;rw[if_pos (by omega)];exact cmpL_irr a
theorem cmpC_anti (a b:List Int) (h1:¬cmpC a b<0) (h2:¬cmpC b a<0):a=b:=by
 unfold cmpC at *
 by_cases e:a.sum - b.sum=0
 ·rw[if_pos e] at h1
  rw[if_pos (by omega)] at h2
  exact cmpL_anti a b h1 h2
 ·rw[if_neg e] at h1
  rw[if_neg (by omega)] at h2
  omega
theorem swoC:SWO (ltOf cmpC) where
 irrefl x:=by simp [ltOf,cmpC_irr]
 trans x y z h1 h2:=by
  simp only[ltOf,decide_eq_true_eq] at *
  unfold cmpC at *
  by_cases e1:x.sum - y.sum=0
  ·rw[if_pos e1] at h1
   by_cases e2:y.sum - z.sum=0
   ·rw[if_pos e2] at h2
    rw[if_pos (by omega)]
    exact cmpL_trans x y z h1 h2
   ·rw[if_neg e2] at h2
    rw[if_neg (by omega)]
    omega
  ·rw[if_neg e1] at h1
   by_cases e2:y.sum - z.sum=0
   ·rw[if_pos e2] at h2
    rw[if_neg (by omega)]
    omega
   ·rw[if_neg e2] at h2
    rw[if_neg (by omega)]
    omega
 ntrans x y z h1 h2:=by
  simp only[ltOf,decide_eq_false_iff_not] at *
  unfold cmpC at *
  by_cases e1:x.sum - y.sum=0
  ·rw[if_pos e1] at h1
   by_cases e2:y.sum - z.sum=0
   ·rw[if_pos e2] at h2
    rw[if_pos (by omega)]
    exact cmpL_ntrans x y z h1 h2
   ·rw[if_neg e2] at h2
    rw[if_neg (by omega)]
    omega
  ·rw[if_neg e1] at h1
   by_cases e2:y.sum - z.sum=0
   ·rw[if_pos e2] at h2
    rw[if_neg (by omega)]
    omega
   ·rw[if_neg e2] at h2
    rw[if_neg (by omega)]
    omega
def CntOk (c:List Int):Prop:=c.length≤1000∧∀z ∈ c,0≤z∧z≤1000000
theorem cnt_sum {c:List Int} (h:∀z ∈ c,0≤z∧z≤1000000):0≤c.sum∧c.sum≤1000000 * c.length:=by
 induction c with
 | nil=>simp
 | cons x c ih =>
  have:=ih fun z hz=>h z (List.mem_cons_of_mem _ hz)
  have:=h x (by simp)
  rw[List.sum_cons,List.length_cons]
  omega
theorem irr_size (c:List Int) (h:CntOk c):PC Proofs.Tryz.prog 188 [aInts c] (ai c.sum):=by
 obtain⟨hl,hc⟩:=h
 have hst:∀i (hi:i<c.length),(c.take (i+1)).sum=(c.take i).sum+c[i]∧0≤(c.take i).sum∧(c.take i).sum≤1000000000∧0≤c[i]∧c[i]≤1000000:=fun i hi=>by
  have h1:=cnt_sum (c:=c.take i) fun z hz=>hc z (List.mem_of_mem_take hz)
  have h2:=hc _ (List.getElem_mem hi)
  rw[List.length_take] at h1
  refine⟨?_,by omega,by omega,h2.1,h2.2⟩
  rw[List.take_succ_eq_append_getElem hi,List.sum_append]
  simp
 refine PC.enter 17 [.tmp 2] [] Proofs.Tryz.func188 rfl rfl rfl rfl rfl (by simp) (AWp.of ?_);simp only[go_sem]
 refine Wk ?_
 refine AWp.range' c.length [3] [6,7] (fun i vs L=>vs=[ai (c.take i).sum]∧L=[]) (by omega) rfl rfl rfl ⟨rfl,rfl⟩ ?_ ?_
 ·rintro i vs L hil - ⟨rfl,rfl⟩
  have hgi:=getD_map (f:=ai) hil
  obtain⟨e1,e2,e3,e4,e5⟩:=hst i hil
  rw[e1]
  generalize (c.take i).sum=S at *
  simp only[go_sem]
  refine W1 hgi ?_
  exact⟨_,List.Sublist.refl _,rfl⟩
 ·rintro vs L - ⟨rfl,rfl⟩
  simp only[go_sem]
  refine Wk ?_
  refine ret_eq ?_;simp only[go_sem]
theorem irr_compare (a b:List Int) (ha:CntOk a) (hb:CntOk b):PC Proofs.Tryz.prog 112 [aInts a,aInts b] (ai (cmpC a b)):=by
 have h1:=irr_size a ha
 have h2:=irr_size b hb
 have h3:=ints_compare a b (by have:=ha.1;omega)
 have b1:=cnt_sum ha.2
 have b2:=cnt_sum hb.2
 have l1:=ha.1
 have l2:=hb.1
 unfold cmpC
 generalize a.sum=A at *
 generalize b.sum=B at *
 have hA:aInts a = .sl 1 (a.map ai):=rfl
 have hB:aInts b = .sl 1 (b.map ai):=rfl
 rw[hA,hB] at *
 refine PC.enter 17 [.tmp 4] [] Proofs.Tryz.func112 rfl rfl rfl rfl rfl (by simp) (AWp.of ?_);simp only[go_sem]
 refine Wk ?_
 refine Sd ?_
 refine(h1).val.use ?_;simp only[go_sem]
 refine Wk ?_
 refine Sd ?_
 refine(h2).val.use ?_;simp only[go_sem]
 refine Wk ?_
 refine⟨fun h => ?_,fun h => ?_⟩
 ·rw[if_neg h]
  refine Wk ?_
  refine ret_eq ?_;simp only[go_sem]
 ·rw[if_pos h]
  refine Wk ?_
  refine Sd ?_
  refine(h3).val.use ?_;simp only[go_sem]
  refine Wk ?_
  refine ret_eq ?_;simp only[go_sem]
theorem sort_cuts (b cap:Nat) (xs:List (List Int)) (hx:∀x ∈ xs,CntOk x) (hl:xs.length≤1000000000) (t:TypeId) :
  MCalls Proofs.Tryz.prog 111 [.ls b 1 0 xs.length cap,.v (.func (.func 112) #[] #[])] [(b,.row t 1 (xs.map aInts) cap)] fun r L'=>r = .tup []∧L'=[(b,.row t 1 ((sortBy cmpC xs).map aInts) cap)] :=
 sort_calls' sortRows aInts CntOk [] ⟨by simp,by simp⟩ (fun w A=>⟨.slice none 0 0,.sl0 _ _ _ (Nat.zero_le _)⟩) (fun x _=>rfl) cmpC swoC cmpC_anti (fun x y h h'=>irr_compare x y h h') b cap xs hx (by omega)
end Go.AL
end
section
namespace Go.AL
open Go Go.RowKit
set_option maxRecDepth 4000
def stpL (l0:List Int) (E:List (List Int)) (o:Option (List Int)):List (List Int):=match o with
 | some c=>if c=l0∨c ∈ E then E else E ++ [c]
 | none=>E
noncomputable def rowO (ps:List Pr) (T:List Int→Prop) (q m:Nat):List (Option (List Int)):=(List.range m).map fun i=>lstQ ps T (ptF ps q i)
noncomputable def upL (ps:List Pr) (T:List Int→Prop) (l0:List Int):Nat→List (List Int)
 | 0=>[]
 | p+1=>(rowO ps T p (nev ps p)).foldl (stpL l0) (upL ps T l0 p)
noncomputable def lisF (ps:List Pr) (T:List Int→Prop):List (List Int):=match lstQ ps T (List.replicate ps.length 0) with
 | some l0=>sortBy cmpC (upL ps T l0 ps.length)
 | none=>[]
theorem rowY_map (ps:List Pr) (T:List Int→Prop) (q m:Nat):rowY ps T q m=(rowO ps T q m).map aOpt:=by unfold rowY rowO;rw[List.map_map];rfl
theorem rowO_len (ps:List Pr) (T:List Int→Prop) (q m:Nat):(rowO ps T q m).length=m:=by unfold rowO;simp
theorem rowO_mem {ps:List Pr} {T:List Int→Prop} {q m:Nat} {c:List Int} (h:some c ∈ rowO ps T q m):isF ps c=true:=by
 unfold rowO at h
 obtain⟨i,_,e⟩:=List.mem_map.1 h
 exact(lsq_some e).is
theorem stpl_is {ps:List Pr} {l0:List Int} : ∀(l:List (Option (List Int))) (E:List (List Int)),(∀c,some c ∈ l→isF ps c=true)→(∀c ∈ E,isF ps c=true)→∀c ∈ l.foldl (stpL l0) E,isF ps c=true
 | [],E,_,hE,c,hc=>hE c hc
 | o :: l,E,hl,hE,c,hc=>by
  rw[List.foldl_cons] at hc
  refine stpl_is l (stpL l0 E o) (fun d hd=>hl d (List.mem_cons_of_mem _ hd)) (fun d hd => ?_) c hc
  unfold stpL at hd
  split at hd
  ·rename_i d'
   split at hd
   ·exact hE d hd
   ·rcases List.mem_append.1 hd with hd|hd
    ·exact hE d hd
    ·rw[List.mem_singleton.1 hd];exact hl d' (by simp)
  ·exact hE d hd
theorem up_is {ps:List Pr} {T:List Int→Prop} {l0:List Int} : ∀p,∀c ∈ upL ps T l0 p,isF ps c=true
 | 0,c,hc=>by cases hc
 | p+1,c,hc=>stpl_is _ _ (fun d hd=>rowO_mem hd) (up_is p) c hc
theorem stpl_len {l0:List Int} : ∀(l:List (Option (List Int))) (E:List (List Int)),(l.foldl (stpL l0) E).length≤E.length+l.length
 | [],E=>by simp
 | o :: l,E=>by
  rw[List.foldl_cons,List.length_cons]
  have:=stpl_len (l0:=l0) l (stpL l0 E o)
  have h2:(stpL l0 E o).length≤E.length+1:=by
   unfold stpL
   split
   ·split
    ·omega
    ·simp
   ·omega
  omega
theorem up_len {ps:List Pr} {T:List Int→Prop} {l0:List Int} : ∀p,p≤ps.length→(upL ps T l0 p).length≤off ps p
 | 0,_=>by simp [upL]
 | p+1,hp=>by
  rw[upL]
  have:=stpl_len (l0:=l0) (rowO ps T p (nev ps p)) (upL ps T l0 p)
  rw[rowO_len] at this
  have h2:=up_len (ps:=ps) (T:=T) (l0:=l0) p (by omega)
  have h3:=off_succ (ps:=ps) (p:=p) (by omega)
  have h4:=nev_get (ps:=ps) (p:=p) (by omega)
  omega
theorem cut_cnt {ps:List Pr} (hs:Sm ps) (hv:validF ps=true) {c:List Int} (hc:isF ps c=true):CntOk c:=by
 obtain⟨h1,h2,_⟩:=isF_iff.1 hc
 have h8:=(valid_len hv).2
 refine⟨by omega,fun z hz => ?_⟩
 obtain⟨i,hi,rfl⟩:=List.getElem_of_mem hz
 obtain⟨b1,b2⟩:=inRangeF_get h2 h1 (show i<ps.length by omega)
 have:=hs.evs _ (List.getElem_mem (show i<ps.length by omega))
 omega
set_option maxHeartbeats 4000000 in
theorem irr_list (ps:List Pr) (hs:Sm ps) (hv:validF ps=true) (T:List Int→Prop) (ts:List Pd) (hfr:∀c,isF ps c=true→PC Proofs.Tryz.prog 50 [aSr ps ts,aInts c] (aOpt (lstQ ps T c))) :
  PC Proofs.Tryz.prog 65 [aSr ps ts] (aRows (lisF ps T)):=by
 have h8:=valid_len hv
 have htab:=irr_table ps hs hv T ts hfr
 have h0:=hfr _ (isF_zero (ps:=ps))
 have hofs:=off_small hs ps.length (Nat.le_refl _)
 have hz:aInts (List.replicate ps.length 0) = .sl 1 (List.replicate ps.length (ai 0)):=by show AV.sl 1 ((List.replicate ps.length 0).map ai)=_;rw[List.map_replicate]
 rw[hz] at h0
 unfold lisF
 have hS:aSr ps ts = .agg [.sl 3 (ps.map aPr),.sl 7 (ts.map aPt)]:=rfl
 rw[hS] at h0 htab ⊢
 generalize ts.map aPt=PP at *
 clear hfr hz hS
 have hl0:∀c,lstQ ps T (List.replicate ps.length 0)=some c→isF ps c=true:=fun c h=>(lsq_some h).is
 generalize lstQ ps T (List.replicate ps.length 0)=R at *
 cases R with
 | none =>
  refine PC.enter 59 [.tmp 2] [1,15,52] Proofs.Tryz.func65 rfl rfl rfl rfl rfl (by simp) (AWp.of ?_);simp only[go_sem]
  refine Wk ?_
  repeat(first|(with_reducible refine AWp.seq ?_)|(with_reducible refine AWp.block ?_))
  refine AWp.mix mixed [0,1,2,3,4,5,6,7] .done (by kernel_rfl) ?_;simp only[go_sem]
  refine Sd ?_
  have h0:PC _ _ _ anil:=h0
  have h00:((0:Nat):Int)=0:=rfl
  refine Sd ?_
  refine Gc h0 ?_
  refine Sd ?_
  refine W1 h00 ?_
  refine ret_view [] ?_;simp only[go_sem]
  exact .nil 1
 | some l0 =>
  have hc0:=hl0 l0 rfl
  have hcl0:=(isF_iff.1 hc0).1
  have h0:PC _ _ _ (.sl 1 (l0.map ai)):=h0
  have hk0:=irr_key l0 (by omega)
  have hC0:aInts l0 = .sl 1 (l0.map ai):=rfl
  rw[hC0] at hk0
  have hne0:¬((l0.length:Int)=0):=by omega
  have hft:=ky_fits (c:=l0) (by omega)
  have hpt:mput (kyV l0) (ab true) [] [] = .amap ([l0].map kyV) ([l0].map fun _=>ab true):=rfl
  obtain⟨X0,V0,hX0,hfs0,hkv0⟩:=ky_shape l0
  rw[hX0] at hk0
  have hTb:aLct ps T = .sl 1 ((List.range ps.length).map fun q => .sl 1 (rowY ps T q (nev ps q))):=rfl
  rw[hTb] at htab
  simp only[rowY_map] at htab
  refine PC.enter 59 [.tmp 2] [1,15,52] Proofs.Tryz.func65 rfl rfl rfl rfl rfl (by simp) (AWp.of ?_);simp only[go_sem]
  refine Wk ?_
  repeat(first|(with_reducible refine AWp.seq ?_)|(with_reducible refine AWp.block ?_))
  refine AWp.mix mixed [0,1,2,3,4,5,6,7] .done (by kernel_rfl) ?_;simp only[go_sem]
  refine Sd ?_
  refine Sd ?_
  refine Gc h0 ?_
  refine Sd ?_
  refine W1 hne0 ?_
  intro bm
  refine Sd ?_
  refine Sd ?_
  refine(hk0).val.use ?_;simp only[go_sem]
  have hfo0:∀X,fo (.agg X)=(True,.agg X):=fun _=>rfl
  simp only[go_sem,hfs0,hkv0,hft,hpt]
  refine Sd ?_
  refine W4 hfs0 hkv0 hft hpt ?_
  refine Sd ?_
  refine(htab).val.use ?_;simp only[go_sem,List.length_range]
  repeat(first|((with_reducible refine AWp.ofC ?_ ?_);exact rfl;simp only[go_sem,List.length_range])|((with_reducible refine an ?_ ?_);exact Au))
  refine AWp.range' ps.length [5] [4,25,26] (fun p vs L=>∃v Lv,vs=[v]∧L.Perm ((bm,.amap (kyV l0 :: (upL ps T l0 p).map kyV) (ab true :: (upL ps T l0 p).map fun _=>ab true)) :: Lv)∧AppSt 33 1 ((upL ps T l0 p).map aInts) v Lv∧∀x ∈ Lv,x.1 ≠ bm) (by omega) rfl rfl rfl ⟨anil,[],rfl,.refl _,.nil,by simp⟩ ?_ ?_
  ·rintro p vs L hp - ⟨v,Lv,rfl,hP,hA,hne⟩
   have hup:=up_is (ps:=ps) (T:=T) (l0:=l0) p
   have hul:=up_len (ps:=ps) (T:=T) (l0:=l0) p (by omega)
   have hof:=off_le hp
   have hnv:=nev_get hp
   have hrg:((List.range ps.length).map fun q=>AV.sl 1 ((rowO ps T q (nev ps q)).map aOpt)).getD p .any = .sl 1 ((rowO ps T p (nev ps p)).map aOpt):=by
    rw[map_range_getD hp]
   have hrl:=rowO_len ps T p (nev ps p)
   have hrm:=fun c (h:some c ∈ rowO ps T p (nev ps p))=>rowO_mem h
   have hnx:upL ps T l0 (p+1)=(rowO ps T p (nev ps p)).foldl (stpL l0) (upL ps T l0 p):=rfl
   rw[hnx]
   generalize rowO ps T p (nev ps p)=RO at *
   generalize upL ps T l0 p=E0 at *
   have hvo:=hA.fo
   simp only[go_sem]
   repeat(first|((with_reducible refine AWp.ofC ?_ ?_);exact rfl;simp only[go_sem,hrg,hvo,List.length_range])|((with_reducible refine an ?_ ?_);exact Au))
   refine AWp.range' RO.length [5] [4,25,26,27,31,32] (fun i vs L=>∃v Lv,vs=[v]∧L.Perm ((bm,.amap (kyV l0 :: ((RO.take i).foldl (stpL l0) E0).map kyV) (ab true :: ((RO.take i).foldl (stpL l0) E0).map fun _=>ab true)) :: Lv)∧AppSt 33 1 (((RO.take i).foldl (stpL l0) E0).map aInts) v Lv∧∀x ∈ Lv,x.1 ≠ bm) (by omega) rfl rfl rfl ⟨v,Lv,rfl,hP,hA,hne⟩ ?_ ?_
   ·clear hA hne hvo hP
    rintro i vs L hil - ⟨v,Lv,rfl,hP,hA,hne⟩
    refine AWp.perm hP ?_
    have hst:(RO.take (i+1)).foldl (stpL l0) E0=stpL l0 ((RO.take i).foldl (stpL l0) E0) RO[i]:=by rw[List.take_succ_eq_append_getElem hil,List.foldl_append];rfl
    have hEi:=stpl_is (l0:=l0) (RO.take i) E0 (fun c hc=>hrm c (List.mem_of_mem_take hc)) hup
    have hEl:=stpl_len (l0:=l0) (RO.take i) E0
    rw[List.length_take] at hEl
    have hgi:=getD_map (f:=aOpt) hil
    have hmo:=hrm
    rw[hst]
    generalize (RO.take i).foldl (stpL l0) E0=E at *
    have hvo:=hA.fo
    have hEn:∀d ∈ l0 :: E,d.length=ps.length:=fun d hd=>by
     rcases List.mem_cons.1 hd with rfl|hd
     ·exact hcl0
     ·exact(isF_iff.1 (hEi d hd)).1
    have hro:=List.getElem_mem hil
    generalize RO[i]=o at *
    cases o with
    | none =>
     have hgi:(RO.map aOpt).getD i .any=anil:=hgi
     have h00:((0:Nat):Int)=0:=rfl
     show AWp _ _ _ _ _
     have hE':stpL l0 E none=E:=rfl
     rw[hE']
     simp only[go_sem]
     refine W3 hgi hvo h00 ?_
     have hg0:=mget_ky l0 (by omega) (l0 :: E) (fun d hd=>by rw[hEn d hd,hcl0])
     simp only[List.map_cons] at hg0
     have hlt:¬(0:Int)<0:=by omega
     refine GCall.use (.agg X0) (fun h=>absurd h (by omega)) ?_
     simp only[go_sem,hfs0,hkv0,hft,hg0,hvo,hlt]
     refine W1 hvo ?_
     exact⟨_,List.Sublist.refl _,v,Lv,rfl,.refl _,hA,hne⟩
    | some c =>
     have hc:=hrm c hro
     have hcl:=(isF_iff.1 hc).1
     have hkc:=irr_key c (by omega)
     have hCc:aInts c = .sl 1 (c.map ai):=rfl
     rw[hCc] at hkc
     obtain⟨Xc,Vc,hXc,hfsc,hkvc⟩:=ky_shape c
     rw[hXc] at hkc
     have hftc:=ky_fits (c:=c) (by omega)
     have hgi:(RO.map aOpt).getD i .any = .sl 1 (c.map ai):=hgi
     have hpos:(0:Int)<c.length:=by omega
     have hgm:=mget_ky c (by omega) (l0 :: E) (fun d hd=>by rw[hEn d hd,hcl])
     have hfE:(E.map kyV).all (KK.st [.int,.int,.int,.int,.int,.int,.int,.int]).fits=true:=by
      rw[List.all_eq_true]
      intro z hz
      obtain⟨d,hd,rfl⟩:=List.mem_map.1 hz
      exact ky_fits (by rw[hEn d (List.mem_cons_of_mem _ hd)];omega)
     by_cases hm:c ∈ l0 :: E
     ·have hE':stpL l0 E (some c)=E:=by
       show (if c=l0∨c ∈ E then E else E ++ [c])=E
       rw[if_pos (List.mem_cons.1 hm)]
      rw[hE']
      rw[decide_eq_true hm] at hgm
      simp only[List.map_cons] at hgm
      simp only[go_sem]
      refine W3 hgi hvo hpos ?_
      refine Sd ?_
      refine GCall.use (.agg Xc) (fun _=>⟨At,(hkc).val.use ⟨rfl,rfl⟩⟩) ?_;simp only[go_sem,hfsc,hkvc,hftc,hgm,hft,hfE]
      refine Sd ?_
      refine W1 hvo ?_
      exact⟨_,List.Sublist.refl _,v,Lv,rfl,.refl _,hA,hne⟩
     ·have hE':stpL l0 E (some c)=E ++ [c]:=by
       show (if c=l0∨c ∈ E then E else E ++ [c])=_
       rw[if_neg (fun h=>hm (List.mem_cons.2 h))]
      rw[hE']
      rw[decide_eq_false hm] at hgm
      have hpt:=mput_ky c (by omega) (l0 :: E) (fun d hd=>by rw[hEn d hd,hcl]) hm
      simp only[List.map_cons,List.cons_append] at hgm hpt
      simp only[go_sem]
      refine W3 hgi hvo hpos ?_
      refine Sd ?_
      refine GCall.use (.agg Xc) (fun _=>⟨At,(hkc).val.use ⟨rfl,rfl⟩⟩) ?_;simp only[go_sem,hfsc,hkvc,hftc,hgm,hft,hfE]
      refine Sd ?_
      refine W5 hvo hfsc hkvc hftc hgm ?_
      refine Sd ?_
      refine(hkc).val.use ?_;simp only[go_sem,hfsc,hkvc,hftc,hgm,hpt,hft,hfE]
      refine Sd ?_
      have hAl:(E.map aInts).length≤1000000000:=by rw[List.length_map];omega
      have hmp:(E ++ [c]).map aInts=E.map aInts ++ [.sl 1 (c.map ai)]:=by rw[List.map_append];rfl
      rw[hmp]
      generalize E.map aInts=ys at *
      rcases hA.inv with ⟨e1,rfl,rfl⟩|⟨b,cap,rfl,rfl⟩
      ·refine Wk ?_
       intro b' cap' g8
       intros
       have m1:¬b'=bm:=by omega
       have m2:¬bm=b':=by omega
       refine W2 m1 m2 ?_
       refine⟨_,List.Sublist.refl _,_,[(b',_)],rfl,List.Perm.swap _ _ _,by rw[e1];exact .row b' [_] cap',?_⟩
       intro x hx
       obtain rfl:=List.mem_singleton.1 hx
       exact m1
      ·have m3:¬b=bm:=hne (b,_) List.mem_cons_self
       have m4:¬bm=b:=fun e=>m3 e.symm
       refine W2 m3 m4 ?_
       intro b' cap' g7 g8
       intros
       refine⟨_,List.Sublist.refl _,_,[(b',_)],rfl,List.Perm.swap _ _ _,AppSt.snoc _ _ _ rfl,?_⟩
       intro x hx
       obtain rfl:=List.mem_singleton.1 hx
       first|exact g8|omega
   ·rintro vs L - ⟨v,Lv,rfl,hP,hA,hne⟩
    rw[List.take_length] at hA hP
    simp only[go_sem]
    repeat(first|((with_reducible refine AWp.ofC ?_ ?_);exact rfl;simp only[go_sem,hA.fo])|((with_reducible refine an ?_ ?_);exact Au))
    exact⟨_,List.Sublist.refl _,v,Lv,rfl,hP,hA,hne⟩
  ·rintro vs L - ⟨v,Lv,rfl,hP,hA,hne⟩
   have hup:=up_is (ps:=ps) (T:=T) (l0:=l0) ps.length
   have hul:=up_len (ps:=ps) (T:=T) (l0:=l0) ps.length (Nat.le_refl _)
   have hcn:=fun c hc=>cut_cnt hs hv (hup c hc)
   clear hup
   generalize upL ps T l0 ps.length=E at *
   refine AWp.perm hP ?_
   rcases hA.inv with ⟨e1,rfl,rfl⟩|⟨b,cap,rfl,rfl⟩
   ·have hE:E=[]:=by simpa using e1
    have hsE:sortBy cmpC ([]:List (List Int))=[]:=List.perm_nil.1 (sortBy_perm cmpC [])
    rw[hE,hsE]
    simp only[go_sem]
    refine Wk ?_
    refine Sd ?_
    refine(sort_nil 112).val.use ?_;simp only[go_sem]
    refine Wk ?_
    refine ret_view [false] ?_;simp only[go_sem]
    exact .nil 1
   ·have m3:¬b=bm:=hne (b,_) List.mem_cons_self
    have m4:¬bm=b:=fun e=>m3 e.symm
    refine AWp.perm (List.Perm.swap _ _ _) ?_
    have hsl:(sortBy cmpC E).length=E.length:=(sortBy_perm cmpC E).length_eq
    have hso:=sort_cuts b cap E hcn (by omega) 33
    rw[List.length_map]
    simp only[go_sem]
    refine W2 m3 m4 ?_
    refine(MVal.frame (Lm:=[(b,_)]) (Lr:=_) hso.val).mono ?_
    rintro r L ⟨L1,rfl,rfl,rfl⟩
    simp only[go_sem,m3,m4]
    refine W2 m3 m4 ?_
    refine ret_view [true,false] ?_;simp only[go_sem,m3,m4]
    exact Vw.ofLs (if_pos rfl) (by rw[List.length_map,hsl])
noncomputable def mdE (ps:List Pr) (t:Pd) (cl:Int):Int:=if checkF ps t ≠ 0 then checkF ps t else madE t cl
theorem mdE_zero {ps:List Pr} {t:Pd} {cl:Int} (h:mdE ps t cl=0):checkF ps t=0∧madE t cl=0:=by
 unfold mdE at h
 split at h
 ·rename_i h1;exact absurd h h1
 ·rename_i h1;exact⟨Decidable.byContradiction h1,h⟩
noncomputable def tblA (ps:List Pr) (t:Pd):AV:=if mdE ps t 8=0 then aLct ps (TruP ps t) else .sl 1 []
noncomputable def lirF (ps:List Pr) (t:Pd):List (List Int):=if mdE ps t 32=0 then lisF ps (TruP ps t) else []
set_option maxHeartbeats 2000000 in
theorem irr_Table (ps:List Pr) (hs:Sm ps) (t:Pd) (hz:szF t≤1000000):PC Proofs.Tryz.prog 10 [aTr ps,aPd t] (.tup [tblA ps t,ai (mdE ps t 8)]):=by
 have h1:=predtype_Check ps hs t hz
 have hTr:aTr ps = .agg [.sl 3 (ps.map aPr)]:=rfl
 by_cases hck:checkF ps t=0
 rotate_left
 ·have e:mdE ps t 8=checkF ps t:=by unfold mdE;rw[if_pos hck]
  have e2:tblA ps t = .sl 1 []:=by unfold tblA;rw[if_neg (by rw[e];exact hck)];try rfl
  rw[e,e2]
  generalize checkF ps t=E at *
  obtain⟨k,n,p,q,s,X,hT⟩:=aPd_shape t
  rw[hT,hTr] at h1 ⊢
  refine PC.enter 26 [.tmp 4,.tmp 5] [2,3,7] Proofs.Tryz.func10 rfl rfl rfl rfl rfl (by simp) (AWp.of ?_);simp only[go_sem]
  refine Wk ?_
  refine Sd ?_
  refine(h1).val.use ?_;simp only[go_sem]
  refine W1 hck ?_
  refine ret_view [] ?_;simp only[go_sem]
  exact .mkTup (Vws.cons (.nil 1) (Vws.refl _))
 rw[hck] at h1
 have h3:=irr_made ps hs t hz hck 8 (by decide)
 have eM:mdE ps t 8=madE t 8:=by unfold mdE;rw[if_neg (fun h=>h hck)]
 by_cases hm:madE t 8=0
 rotate_left
 ·have e2:tblA ps t = .sl 1 []:=by unfold tblA;rw[if_neg (by rw[eM];exact hm)];try rfl
  rw[if_neg hm] at h3
  rw[eM,e2]
  generalize madE t 8=E at *
  obtain⟨k,n,p,q,s,X,hT⟩:=aPd_shape t
  rw[hT,hTr] at h1 h3
  rw[hT,hTr]
  refine PC.enter 26 [.tmp 4,.tmp 5] [2,3,7] Proofs.Tryz.func10 rfl rfl rfl rfl rfl (by simp) (AWp.of ?_);simp only[go_sem]
  refine Wk ?_
  refine Sd ?_
  refine(h1).val.use ?_;simp only[go_sem]
  refine Wk ?_
  refine Sd ?_
  refine(h3).val.use ?_;simp only[go_sem]
  refine Wk ?_
  intro b11
  refine Sd ?_
  refine W1 hm ?_
  refine ret_view [] ?_;simp only[go_sem]
  exact .mkTup (Vws.cons (.nil 1) (Vws.refl _))
 have hv:=(checkF_zero hck).1
 have h4:=irr_table ps hs hv (TruP ps t) (cjF (normF t false)) fun c hc=>from_tru ps hs t hck hm c hc
 have e2:tblA ps t=aLct ps (TruP ps t):=by unfold tblA;rw[if_pos (by rw[eM];exact hm)]
 rw[hm,if_pos rfl] at h3
 rw[eM,hm,e2]
 have hSr:aSr ps (cjF (normF t false)) = .agg [.sl 3 (ps.map aPr),.sl 7 ((cjF (normF t false)).map aPt)]:=rfl
 obtain⟨Y,hY⟩:∃Y,aLct ps (TruP ps t) = .sl 1 Y:=⟨_,rfl⟩
 rw[hY] at h4 ⊢
 obtain⟨k,n,q1,q2,s,X,hT⟩:=aPd_shape t
 rw[hT,hTr] at h1
 rw[hT,hTr,hSr] at h3
 rw[hSr] at h4
 rw[hT,hTr]
 refine PC.enter 26 [.tmp 4,.tmp 5] [2,3,7] Proofs.Tryz.func10 rfl rfl rfl rfl rfl (by simp) (AWp.of ?_);simp only[go_sem]
 refine Wk ?_
 refine Sd ?_
 refine(h1).val.use ?_;simp only[go_sem]
 refine Wk ?_
 refine Sd ?_
 refine(h3).val.use ?_;simp only[go_sem]
 refine Wk ?_
 intro b11
 refine Sd ?_
 refine Wk ?_
 refine Sd ?_
 refine(h4).val.use ?_;simp only[go_sem]
 refine Wk ?_
 refine ret_eq ?_;simp only[go_sem]
set_option maxHeartbeats 2000000 in
theorem irr_List (ps:List Pr) (hs:Sm ps) (t:Pd) (hz:szF t≤1000000):PC Proofs.Tryz.prog 21 [aTr ps,aPd t] (.tup [aRows (lirF ps t),ai (mdE ps t 32)]):=by
 have h1:=predtype_Check ps hs t hz
 have hTr:aTr ps = .agg [.sl 3 (ps.map aPr)]:=rfl
 by_cases hck:checkF ps t=0
 rotate_left
 ·have e:mdE ps t 32=checkF ps t:=by unfold mdE;rw[if_pos hck]
  have e2:aRows (lirF ps t) = .sl 1 []:=by unfold lirF;rw[if_neg (by rw[e];exact hck)];try rfl
  rw[e,e2]
  generalize checkF ps t=E at *
  obtain⟨k,n,p,q,s,X,hT⟩:=aPd_shape t
  rw[hT,hTr] at h1 ⊢
  refine PC.enter 26 [.tmp 4,.tmp 5] [2,3,7] Proofs.Tryz.func21 rfl rfl rfl rfl rfl (by simp) (AWp.of ?_);simp only[go_sem]
  refine Wk ?_
  refine Sd ?_
  refine(h1).val.use ?_;simp only[go_sem]
  refine W1 hck ?_
  refine ret_view [] ?_;simp only[go_sem]
  exact .mkTup (Vws.cons (.nil 1) (Vws.refl _))
 rw[hck] at h1
 have h3:=irr_made ps hs t hz hck 32 (by decide)
 have eM:mdE ps t 32=madE t 32:=by unfold mdE;rw[if_neg (fun h=>h hck)]
 by_cases hm:madE t 32=0
 rotate_left
 ·have e2:aRows (lirF ps t) = .sl 1 []:=by unfold lirF;rw[if_neg (by rw[eM];exact hm)];try rfl
  rw[if_neg hm] at h3
  rw[eM,e2]
  generalize madE t 32=E at *
  obtain⟨k,n,p,q,s,X,hT⟩:=aPd_shape t
  rw[hT,hTr] at h1 h3
  rw[hT,hTr]
  refine PC.enter 26 [.tmp 4,.tmp 5] [2,3,7] Proofs.Tryz.func21 rfl rfl rfl rfl rfl (by simp) (AWp.of ?_);simp only[go_sem]
  refine Wk ?_
  refine Sd ?_
  refine(h1).val.use ?_;simp only[go_sem]
  refine Wk ?_
  refine Sd ?_
  refine(h3).val.use ?_;simp only[go_sem]
  refine Wk ?_
  intro b11
  refine Sd ?_
  refine W1 hm ?_
  refine ret_view [] ?_;simp only[go_sem]
  exact .mkTup (Vws.cons (.nil 1) (Vws.refl _))
 have hv:=(checkF_zero hck).1
 have h4:=irr_list ps hs hv (TruP ps t) (cjF (normF t false)) fun c hc=>from_tru ps hs t hck hm c hc
 have e2:aRows (lirF ps t)=aRows (lisF ps (TruP ps t)):=by unfold lirF;rw[if_pos (by rw[eM];exact hm)]
 rw[hm,if_pos rfl] at h3
 rw[eM,hm,e2]
 have hSr:aSr ps (cjF (normF t false)) = .agg [.sl 3 (ps.map aPr),.sl 7 ((cjF (normF t false)).map aPt)]:=rfl
 obtain⟨Y,hY⟩:∃Y,aRows (lisF ps (TruP ps t)) = .sl 1 Y:=⟨_,rfl⟩
 rw[hY] at h4 ⊢
 obtain⟨k,n,q1,q2,s,X,hT⟩:=aPd_shape t
 rw[hT,hTr] at h1
 rw[hT,hTr,hSr] at h3
 rw[hSr] at h4
 rw[hT,hTr]
 refine PC.enter 26 [.tmp 4,.tmp 5] [2,3,7] Proofs.Tryz.func21 rfl rfl rfl rfl rfl (by simp) (AWp.of ?_);simp only[go_sem]
 refine Wk ?_
 refine Sd ?_
 refine(h1).val.use ?_;simp only[go_sem]
 refine Wk ?_
 refine Sd ?_
 refine(h3).val.use ?_;simp only[go_sem]
 refine Wk ?_
 intro b11
 refine Sd ?_
 refine Wk ?_
 refine Sd ?_
 refine(h4).val.use ?_;simp only[go_sem]
 refine Wk ?_
 refine ret_eq ?_;simp only[go_sem]
theorem lsq_dich {ps:List Pr} (hv:validF ps=true) {ts:List Pd} (hp:∀t ∈ ts,PartOk ps t):∀(n:Nat) (c:List Int),isF ps c=true→off ps ps.length - totC c=n→(∃d,Lst ps (AllP' ps ts) c d)∨∀e,isF ps e=true→leC c e→¬AllP' ps ts e:=by
 intro n
 induction n using Nat.strongRecOn with
 | _ n ih =>
 intro c hc hn
 by_cases hall:AllP' ps ts c
 ·exact .inl ⟨c,hc,.refl _,hall,fun e _ h _=>h⟩
 ·obtain⟨t,ht,hf⟩:∃t ∈ ts,truF (obC ps c) t=false:=by
   apply Decidable.byContradiction
   intro h
   refine hall fun t ht => ?_
   cases e:truF (obC ps c) t with
   | true=>rfl
   | false=>exact absurd ⟨t,ht,e⟩ h
  by_cases hex:∃e,isF ps e=true∧leC c e∧AllP' ps ts e
  ·obtain⟨e,e1,e2,e3⟩:=hex
   obtain⟨i,f1,f2,f3⟩:=fb_spec hv (hp t ht) e2 hf (e3 t ht)
   have hge:∀e',isF ps e'=true→leC c e'→AllP' ps ts e'→c.getD i 0<e'.getD i 0:=fun e' g1 g2 g3=>by
    obtain⟨j,k1,_,k3⟩:=fb_spec hv (hp t ht) g2 hf (g3 t ht)
    have:j=i:=by omega
    rw[this] at k3;exact k3
   have hlt:c.getD i 0<ps[i].evs.length:=by
    obtain⟨b1,b2⟩:=inRangeF_get (isF_iff.1 e1).2.1 (isF_iff.1 e1).1 f2
    have:e.getD i 0=e[i]'(by have:=(isF_iff.1 e1).1;omega):=by rw[List.getD_eq_getElem?_getD,List.getElem?_eq_getElem];rfl
    omega
   obtain⟨_,_,s3,s4,s5,s6⟩:=close_step hv hc f2 hlt
   have t1:=totC_ltC hc s3 s4 ⟨i,f2,s5⟩
   have t2:=totC_le (isF_iff.1 s3).1 (isF_iff.1 s3).2.1
   rcases ih _ (by omega) _ s3 rfl with ⟨d,hd⟩|hno
   ·exact .inl ⟨d,hd.is,s4.trans hd.ge,hd.tru,fun e' g1 g2 g3=>hd.least e' g1 (s6 e' g1 g2 (hge e' g1 g2 g3)) g3⟩
   ·exact absurd e3 (hno e e1 (s6 e e1 e2 (hge e e1 e2 e3)))
  ·exact .inr fun e g1 g2 g3=>hex ⟨e,g1,g2,g3⟩
theorem lin_none' {ps:List Pr} {t:Pd} (hck:checkF ps t=0) {cl:Int} (hm:madE t cl=0) {c:List Int} (hc:isF ps c=true) (h:lstQ ps (TruP ps t) c=none):∀e,isF ps e=true→leC c e→¬truF (obC ps e) t=true:=by
 obtain⟨h1,h2,h3⟩:=mad_zero hm
 have hnf:=nf_of hck h1
 have hp:=pt_ok _ hnf (cls_lin h2) (by rw[ntm_norm (prd_ok h1)];exact h3)
 have hd:=lsq_dich (checkF_zero hck).1 hp _ c hc rfl
 rw[all_tru hck h1 h3] at hd
 rcases hd with ⟨d,hd⟩|hno
 ·rw[lsq_eq hd] at h;cases h
 ·exact hno
theorem pt_leC {ps:List Pr} (hv:validF ps=true) {p:Nat} (hp:p<ps.length) {i:Nat} (hi:i<ps[p].evs.length) {d:List Int} (hd:isF ps d=true):leC (ptF ps p i) d↔(i:Int)+1≤d.getD p 0:=by
 have hcA:∀(e:List Int) (q:Nat),cAt e q=e.getD q 0:=fun e q=>by unfold cAt;rw[Int.toNat_natCast]
 constructor
 ·intro h
  have h1:=pt_has hv hp hi
  rw[hcA] at h1
  have:=h p
  omega
 ·intro h q
  by_cases hq:q<ps.length
  ·have:=pt_least hv hp hd (i:=i) (by rw[hcA];exact h) q hq
   rw[hcA,hcA] at this
   exact this
  ·have l1:=(isF_iff.1 (pt_is hv hp hi)).1
   have l2:=(isF_iff.1 hd).1
   rw[List.getD_eq_getElem?_getD,List.getElem?_eq_none (by omega),List.getD_eq_getElem?_getD,List.getElem?_eq_none (by omega)]
   exact Int.le_refl _
end Go.AL
end
