/- Texts of this claim's proof: WFlt, WCut, WCut2, WVar, WKn, WKn2, WStp, WStp2, WRk, WSame, WDrop, WDv. No condition. -/
import Derived.Test.YtpcmoecaaphjmaaGreatDoorM6
section
namespace Go.AL
open Go Go.RowKit
set_option maxRecDepth 4000
def evAt (ps:List Pr) (x:Eid):Int:=evF ps x.1.toNat (x.2 - 1).toNat
def evFirst (ps:List Pr):Option (Eid × Int):=((evIds ps).find? (fun x=>evAt ps x.1 != 0)).map fun x=>(x.1,evAt ps x.1)
def procFirst (ps:List Pr):Option (Eid × Int):=((List.range ps.length).find? (fun p=>procF ps p != 0)).map fun (p:Nat)=>(((p:Int),0),procF ps p)
noncomputable def faultF (ps:List Pr):Eid × Int :=
 if !inI ps.length 1 8 then ((0,0),1) else
 match procFirst ps with
 | some x=>x
 | none=>match evFirst ps with
  | some x=>x
  | none=>match msgF ps with
   | some x=>x
   | none=>match cycF ps with
    | some id=>(id,10)
    | none=>((0,0),0)
theorem procFirst_hit {ps:List Pr} {k:Nat} (hk:k<ps.length) (h0:∀j,j<k→procF ps j=0) (h:procF ps k ≠ 0):procFirst ps=some (((k:Int),0),procF ps k):=by
 have:(List.range ps.length).find? (fun p=>procF ps p != 0)=some k:=by
  rw[List.find?_range_eq_some]
  exact⟨by simpa using h,by simpa using hk,fun j hj=>by simpa using h0 j hj⟩
 unfold procFirst;rw[this];rfl
theorem procFirst_none {ps:List Pr} (h:∀j,j<ps.length→procF ps j=0):procFirst ps=none:=by
 have:(List.range ps.length).find? (fun p=>procF ps p != 0)=none:=by
  rw[List.find?_eq_none];intro i hi;simpa using h i (List.mem_range.1 hi)
 unfold procFirst;rw[this];rfl
theorem evFirst_hit {ps:List Pr} {k:Nat} {x:Eid × Ev} (hx:(evIds ps)[k]?=some x) (h0:∀(j:Nat) (y:Eid × Ev),j<k→(evIds ps)[j]?=some y→evAt ps y.1=0) (h:evAt ps x.1 ≠ 0):evFirst ps=some (x.1,evAt ps x.1):=by
 obtain⟨hk,he⟩:=List.getElem?_eq_some_iff.1 hx
 have:(evIds ps).find? (fun x=>evAt ps x.1 != 0)=some x:=by
  rw[List.find?_eq_some_iff_getElem]
  exact⟨by simpa using h,k,hk,he,fun j hj=>by simpa using h0 j _ hj (List.getElem?_eq_getElem (by omega))⟩
 unfold evFirst;rw[this];rfl
theorem evFirst_none {ps:List Pr} (h:∀(j:Nat) (y:Eid × Ev),(evIds ps)[j]?=some y→evAt ps y.1=0):evFirst ps=none:=by
 have:(evIds ps).find? (fun x=>evAt ps x.1 != 0)=none:=by
  rw[List.find?_eq_none]
  intro y hy
  obtain⟨j,hj⟩:=List.getElem?_of_mem hy
  simpa using h j y hj
 unfold evFirst;rw[this];rfl
theorem evFirst_get {ps:List Pr} (h:evFirst ps=none) {p:Nat} (hp:p<ps.length) {i:Nat} (hi:i<ps[p].evs.length):evF ps p i=0:=by
 unfold evFirst at h
 rw[Option.map_eq_none_iff,List.find?_eq_none] at h
 have:=h _ (List.mem_of_getElem? (evIds_get hp hi))
 simpa [evAt,show ((i:Int)+1 - 1).toNat=i by omega] using this
theorem formed_of_evFirst {ps:List Pr} (h:evFirst ps=none):Formed ps:=by
 intro p hp e he
 obtain⟨i,hi,rfl⟩:=List.getElem_of_mem he
 have h0:=evFirst_get h hp hi
 unfold evF at h0
 simp only[List.getElem?_eq_getElem hp,List.getElem?_eq_getElem hi] at h0
 split at h0
 ·cases h0
 ·rename_i hn;simpa using hn
def aFault (x:Eid × Int):AV:=.tup [aEid x.1,ai x.2]
attribute [go_sem] aFault
theorem trace_Fault (ps:List Pr) (hs:Sm ps):PC Proofs.Tryz.prog 116 [aTr ps] (aFault (faultF ps)):=by
 have hl:=hs.procs
 refine PC.enter 66 [.cell 2 29,.cell 3 34] [1,6,7,10,12] Proofs.Tryz.func116 rfl rfl rfl rfl rfl (by simp) (AWp.of ?_);simp only[go_sem]
 intro b2
 intro b3 h3
 have n23:¬b2=b3:=by omega
 refine Sd ?_
 refine AWp.of ?_;simp only[go_sem,n23]
 refine Sd ?_
 refine(trace_in _ _ _).val.use ?_;simp only[go_sem]
 refine W1 n23 ?_
 refine⟨fun h1 => ?_,fun h1 => ?_⟩
 ·refine W1 n23 ?_
  have hf:faultF ps=((0,0),1):=by unfold faultF;rw[if_pos (by simp [h1])]
  rw[hf]
  refine ret_eq ?_
  simp only[go_sem,n23]
 ·refine Wk ?_
  refine AWp.range' ps.length [] [1,2,3,22] (fun k vs L=>L=[(b3,.row 34 1 [ai 0] 1),(b2,.row 29 2 [aEid (0,0)] 1)]∧∀j,j<k→procF ps j=0) (by omega) rfl rfl rfl ⟨rfl,by omega⟩ ?_ ?_
  ·rintro k vs L' hk - ⟨rfl,hI⟩
   simp only[go_sem]
   refine Sd ?_
   refine AWp.of ?_;simp only[go_sem]
   refine Wk ?_
   refine Sd ?_
   refine(trace_processFault ps hs k hk).val.use ?_;simp only[go_sem]
   refine W1 n23 ?_
   refine⟨fun h2 => ?_,fun h2 => ?_⟩
   ·refine W1 n23 ?_
    have hf:faultF ps=(((k:Int),0),procF ps k):=by unfold faultF;rw[if_neg (by simp [h1]),procFirst_hit hk hI h2]
    rw[hf]
    refine ret_eq ?_
    simp only[go_sem,n23]
   ·refine⟨_,List.Sublist.refl _,rfl,fun j hj => ?_⟩
    by_cases e:j=k
    ·rw[e];exact h2
    ·exact hI j (by omega)
  ·rintro vs L' - ⟨rfl,hI⟩
   have hpf:=procFirst_none hI
   simp only[go_sem]
   refine Sd ?_
   refine AWp.of ?_;simp only[go_sem]
   refine Sd ?_
   refine(trace_events ps).val.use ?_;simp only[go_sem]
   refine AWp.block (AWp.rangeFunc rfl [1,2,3] (evArgs ps) (fun k L=>L=[(b3,.row 34 1 [ai 0] 1),(b2,.row 29 2 [aEid (0,0)] 1)]∧∀(j:Nat) (y:Eid × Ev),j<k→(evIds ps)[j]?=some y→evAt ps y.1=0)
    (fun e L=>e = .ret∧∃id n,evFirst ps=some (id,n)∧L=[(b3,.row 34 1 [ai n] 1),(b2,.row 29 2 [aEid id] 1)])
    rfl (trace_events1 ps hs) (fun x hx=>by obtain⟨k,hk⟩:=List.getElem?_of_mem hx;obtain⟨_,_,_,_,_,_,rfl⟩:=evArgs_inv hk;rfl) ⟨by simp [aEid],by omega⟩ ?_ ?_ ?_)
   ·rintro k x L' l hx ⟨rfl,hI⟩
    obtain⟨p,hp,i,hi,hk,hev,rfl⟩:=evArgs_inv hx
    have hat:evAt ps ((p:Int),(i:Int)+1)=evF ps p i:=by simp only[evAt,Int.toNat_natCast,show ((i:Int)+1 - 1).toNat=i by omega]
    simp only[go_sem]
    refine Sd ?_
    refine AWp.of ?_;simp only[go_sem]
    refine Sd ?_
    intros
    refine AWp.of ?_;simp only[go_sem]
    refine Sd ?_
    intros
    refine AWp.of ?_;simp only[go_sem]
    refine Sd ?_
    refine(trace_eventFault ps hs p hp i hi).val.use ?_;simp only[go_sem]
    refine W1 n23 ?_
    refine⟨fun h2 => ?_,fun h2 => ?_⟩
    ·refine W1 n23 ?_
     rw[← hat] at h2
     exact⟨_,List.Sublist.refl _,_,_,evFirst_hit hev hI h2,by rw[hat]⟩
    ·refine⟨_,List.Sublist.refl _,rfl,fun j y hj hy => ?_⟩
     by_cases e:j=k
     ·subst e;rw[hev] at hy;cases hy;rw[hat];exact h2
     ·exact hI j y (by omega) hy
   ·rintro L' ⟨rfl,hI⟩
    have hef:=evFirst_none (ps:=ps) (fun j y hj=>hI j y (by unfold evArgs;rw[List.length_map];exact(List.getElem?_eq_some_iff.1 hj).1) hj)
    have hfm:=formed_of_evFirst hef
    simp only[go_sem]
    refine Sd ?_
    refine AWp.of ?_;simp only[go_sem]
    have hmf:=trace_messageFault ps hs hfm
    have hcf:=trace_cyclic ps hs hfm
    unfold aMsg at hmf
    cases hm:msgF ps with
    | some x =>
     obtain⟨id,n⟩:=x
     rw[hm] at hmf
     have hn:n ≠ 0:=by
      unfold msgF at hm
      split at hm
      ·rename_i k hk
       have:=List.find?_some hk
       cases hm
       simpa using this
      ·cases hm
     have hf:faultF ps=(id,n):=by unfold faultF;rw[if_neg (by simp [h1]),hpf,hef,hm]
     refine Sd ?_
     refine(hmf).val.use ?_;simp only[go_sem]
     refine Sd ?_
     intro b _ _
     refine W2 n23 hn ?_
     rw[hf]
     refine ret_eq ?_
     simp only[go_sem,n23]
    | none =>
     rw[hm] at hmf
     refine Sd ?_
     refine(hmf).val.use ?_;simp only[go_sem]
     refine Sd ?_
     intro b _ _
     refine Wk ?_
     unfold aCyc at hcf
     cases hc:cycF ps with
     | some id =>
      rw[hc] at hcf
      have hf:faultF ps=(id,10):=by unfold faultF;rw[if_neg (by simp [h1]),hpf,hef,hm,hc]
      refine Sd ?_
      refine(hcf).val.use ?_;simp only[go_sem]
      refine Sd ?_
      intro b _ _
      refine W1 n23 ?_
      rw[hf]
      refine ret_eq ?_
      simp only[go_sem,n23]
     | none =>
      rw[hc] at hcf
      have hf:faultF ps=((0,0),0):=by unfold faultF;rw[if_neg (by simp [h1]),hpf,hef,hm,hc]
      refine Sd ?_
      refine(hcf).val.use ?_;simp only[go_sem]
      refine Sd ?_
      intro b _ _
      refine W1 n23 ?_
      rw[hf]
      refine ret_eq ?_
      simp only[go_sem,n23]
   ·rintro e L' ⟨he,id,n,hc,rfl⟩
    subst he
    show retK _ _ _ _ _
    have hf:faultF ps=(id,n):=by unfold faultF;rw[if_neg (by simp [h1]),hpf,hc]
    rw[hf]
    refine ret_eq ?_
    simp only[go_sem,n23]
noncomputable def validF (ps:List Pr):Bool:=decide ((faultF ps).2=0)
theorem trace_Valid (ps:List Pr) (hs:Sm ps):PC Proofs.Tryz.prog 72 [aTr ps] (ab (validF ps)):=by
 refine PC.enter 12 [.tmp 2] [1,3] Proofs.Tryz.func72 rfl rfl rfl rfl rfl (by simp) (AWp.of ?_);simp only[go_sem]
 refine Wk ?_
 refine Sd ?_
 refine(trace_Fault ps hs).val.use ?_;simp only[go_sem]
 refine Sd ?_
 intros
 refine AWp.of ?_;simp only[go_sem]
 refine Wk ?_
 refine ret_eq ?_;simp only[go_sem]
 rfl
noncomputable def findV (ps:List Pr) (kind m:Int):Eid:=if validF ps then findIn (evIds ps) kind m else (0,0)
theorem findIn_none {l:List (Eid × Ev)} {kind m:Int} (h:∀x ∈ l,¬(x.2.kind=kind∧x.2.msg=m)):findIn l kind m=(0,0):=by
 unfold findIn
 have:l.find? (fun x=>decide (x.2.kind=kind) && decide (x.2.msg=m))=none:=by
  rw[List.find?_eq_none];intro x hx;simpa using h x hx
 rw[this]
theorem findIn_hit {l:List (Eid × Ev)} {kind m:Int} {k:Nat} {x:Eid × Ev} (hx:l[k]?=some x) (h0:∀(j:Nat) (y:Eid × Ev),j<k→l[j]?=some y→¬(y.2.kind=kind∧y.2.msg=m)) (h:x.2.kind=kind∧x.2.msg=m):findIn l kind m=x.1:=by
 unfold findIn
 obtain⟨hk,he⟩:=List.getElem?_eq_some_iff.1 hx
 have:l.find? (fun x=>decide (x.2.kind=kind) && decide (x.2.msg=m))=some x:=by
  rw[List.find?_eq_some_iff_getElem]
  exact⟨by simpa using h,k,hk,he,fun j hj=>by
   have:=h0 j _ hj (List.getElem?_eq_getElem (by omega))
   simp only[Bool.not_eq_true',Bool.and_eq_false_iff,decide_eq_false_iff_not]
   exact Classical.not_and_iff_not_or_not.1 this⟩
 rw[this]
theorem trace_find (ps:List Pr) (hs:Sm ps) (kind m:Int):PC Proofs.Tryz.prog 315 [aTr ps,ai kind,ai m] (.tup [aEid (findV ps kind m),ab (decide (0<(findV ps kind m).2))]):=by
 refine PC.enter 30 [.cell 6 29,.cell 7 4] [3,4,5,8,9] Proofs.Tryz.func315 rfl rfl rfl rfl rfl (by simp) (AWp.of ?_);simp only[go_sem]
 intro b6
 intro b7 h7
 have n67:¬b6=b7:=by omega
 have n76:¬b7=b6:=by omega
 refine Sd ?_
 refine AWp.of ?_;simp only[go_sem,n67,n76]
 refine Sd ?_
 refine(trace_Valid ps hs).val.use ?_;simp only[go_sem]
 refine W2 n67 n76 ?_
 refine⟨fun h1 => ?_,fun h1 => ?_⟩
 ·refine W2 n67 n76 ?_
  have hf:findV ps kind m=(0,0):=by unfold findV;rw[h1];rfl
  rw[hf]
  refine ret_eq ?_
  simp only[go_sem,n67,n76]
  rfl
 ·refine Wk ?_
  have hf:findV ps kind m=findIn (evIds ps) kind m:=by unfold findV;rw[h1];rfl
  refine Sd ?_
  refine(trace_events ps).val.use ?_;simp only[go_sem]
  refine AWp.block (AWp.rangeFunc rfl [4,5,6,7] (evArgs ps) (fun k L=>L=[(b7,.row 4 1 [ab false] 1),(b6,.row 29 2 [aEid (0,0)] 1)]∧∀(j:Nat) (y:Eid × Ev),j<k→(evIds ps)[j]?=some y→¬(y.2.kind=kind∧y.2.msg=m))
   (fun e L=>e = .ret∧0<(findIn (evIds ps) kind m).2∧L=[(b7,.row 4 1 [ab true] 1),(b6,.row 29 2 [aEid (findIn (evIds ps) kind m)] 1)])
   rfl (trace_events1 ps hs) (fun x hx=>by obtain⟨k,hk⟩:=List.getElem?_of_mem hx;obtain⟨_,_,_,_,_,_,rfl⟩:=evArgs_inv hk;rfl) ⟨by simp [aEid],by omega⟩ ?_ ?_ ?_)
  ·rintro k x L' l hx ⟨rfl,hI⟩
   obtain⟨p,hp,i,hi,hk,hev,rfl⟩:=evArgs_inv hx
   simp only[go_sem]
   refine Sd ?_
   refine AWp.of ?_;simp only[go_sem]
   refine Sd ?_
   intros
   refine AWp.of ?_;simp only[go_sem]
   refine Sd ?_
   intros
   refine AWp.of ?_;simp only[go_sem]
   refine W2 n67 n76 ?_
   refine⟨fun h2 h3 => ?_,fun h2 => ?_⟩
   ·refine W2 n67 n76 ?_
    have:=findIn_hit hev hI ⟨h2,h3⟩
    refine⟨_,List.Sublist.refl _,?_,?_⟩
    ·rw[this];show (0:Int)<(i:Int)+1;omega
    ·rw[this]
   ·refine⟨_,List.Sublist.refl _,rfl,fun j y hj hy => ?_⟩
    by_cases e:j=k
    ·subst e;rw[hev] at hy;cases hy;rintro⟨h3,h4⟩;exact h2 h3 h4
    ·exact hI j y (by omega) hy
  ·rintro L' ⟨rfl,hI⟩
   have h0:=findIn_none (l:=evIds ps) (kind:=kind) (m:=m) (fun x hx=>by
    obtain⟨j,hj⟩:=List.getElem?_of_mem hx
    exact hI j x (by unfold evArgs;rw[List.length_map];exact(List.getElem?_eq_some_iff.1 hj).1) hj)
   simp only[go_sem]
   refine W2 n67 n76 ?_
   rw[hf,h0]
   refine ret_eq ?_
   simp only[go_sem,n67,n76]
   rfl
  ·rintro e L' ⟨he,hpos,rfl⟩
   subst he
   show retK _ _ _ _ _
   rw[hf,decide_eq_true hpos]
   refine ret_eq ?_
   simp only[go_sem,n67,n76]
theorem trace_Sender (ps:List Pr) (hs:Sm ps) (m:Int):PC Proofs.Tryz.prog 283 [aTr ps,ai m] (.tup [aEid (findV ps 2 m),ab (decide (0<(findV ps 2 m).2))]):=by
 refine PC.enter 11 [.cell 4 29,.tmp 5] [2] Proofs.Tryz.func283 rfl rfl rfl rfl rfl (by simp) (AWp.of ?_);simp only[go_sem]
 intro b4
 refine Sd ?_
 refine AWp.of ?_;simp only[go_sem]
 refine Sd ?_
 refine(trace_find ps hs 2 m).val.use ?_;simp only[go_sem]
 refine Wk ?_
 refine ret_eq ?_;simp only[go_sem]
theorem cut_process (ps:List Pr) (p:Int):PC Proofs.Tryz.prog 184 [aTr ps,ai p] (ab (decide (0≤p) && decide (p<ps.length))):=by
 refine PC.enter 14 [.tmp 4] [2] Proofs.Tryz.func184 rfl rfl rfl rfl rfl (by simp) (AWp.of ?_);simp only[go_sem]
 refine Wk ?_
 refine ret_eq ?_;simp only[go_sem]
def cntOk (ps:List Pr) (c:List Int) (p:Nat):Bool :=
 match ps[p]?,c[p]? with
 | some x,some n=>decide (0≤n) && decide (n≤x.evs.length)
 | _,_=>true
def inRangeF (ps:List Pr) (c:List Int):Bool:=(List.range c.length).all (cntOk ps c)
theorem cut_inRange (ps:List Pr) (hs:Sm ps) (c:List Int) (hc:c.length=ps.length):PC Proofs.Tryz.prog 183 [aTr ps,aInts c] (ab (inRangeF ps c)):=by
 have hl:=hs.procs
 refine PC.enter 28 [.tmp 4] [2] Proofs.Tryz.func183 rfl rfl rfl rfl rfl (by simp) (AWp.of ?_);simp only[go_sem]
 refine Sd ?_
 refine AWp.of ?_;simp only[go_sem]
 refine AWp.range' c.length [] [2,7,8] (fun k vs L=>L=[]∧∀j,j<k→cntOk ps c j=true) (by omega) rfl rfl rfl ⟨rfl,by omega⟩ ?_ ?_
 ·rintro k vs L' hk - ⟨rfl,hI⟩
  have hkp:k<ps.length:=by omega
  have e:cntOk ps c k=(decide (0≤c[k]) && decide (c[k]≤ps[k].evs.length)):=by simp only[cntOk,List.getElem?_eq_getElem hk,List.getElem?_eq_getElem hkp]
  simp only[go_sem]
  repeat(first|((with_reducible refine AWp.ofC ?_ ?_);exact rfl;simp only[go_sem,getD_map hk,getD_map hkp])|((with_reducible refine an ?_ ?_);exact Au))
  refine⟨fun h1 => ?_,fun h1 h2 => ?_⟩
  ·refine Wk ?_
   refine ret_eq ?_;simp only[go_sem]
   have e2:cntOk ps c k=false:=by
    rw[e];rcases h1 with h1|h1
    ·rw[decide_eq_false (by omega)];rfl
    ·rw[decide_eq_false (p:=c[k]≤(ps[k].evs.length:Int)) (by omega),Bool.and_false]
   congr 2;symm
   unfold inRangeF;rw[List.all_eq_false]
   exact⟨k,List.mem_range.2 hk,by simp [e2]⟩
  ·refine⟨_,List.Sublist.refl _,rfl,fun j hj => ?_⟩
   by_cases ej:j=k
   ·rw[ej,e];simp;omega
   ·exact hI j (by omega)
 ·rintro vs L' - ⟨rfl,hI⟩
  simp only[go_sem]
  refine Wk ?_
  refine ret_eq ?_;simp only[go_sem]
  congr 2;symm
  unfold inRangeF;rw[List.all_eq_true]
  exact fun j hj=>hI j (List.mem_range.1 hj)
theorem cut_sized1 (ps:List Pr) (c:List Int):PC Proofs.Tryz.prog 242 [aInts c,.rp 1 [aTr ps] 0 0] (ab (!decide (c.length=ps.length))):=by
 refine PC.enter 10 [.tmp 3] [] Proofs.Tryz.func242 rfl rfl rfl rfl rfl (by simp) (AWp.of ?_);simp only[go_sem]
 refine Wk ?_
 refine ret_eq ?_;simp only[go_sem]
 congr 2;simp only[Int.natCast_inj]
noncomputable def sizedF (ps:List Pr) (l:List (List Int)):Bool:=validF ps && !l.any fun c => !decide (c.length=ps.length)
theorem cut_sized (ps:List Pr) (hs:Sm ps) (l:List (List Int)) (hl:l.length≤1000000):PC Proofs.Tryz.prog 182 [aTr ps,aRows l] (ab (sizedF ps l)):=by
 refine PC.enter 13 [.tmp 4] [2] Proofs.Tryz.func182 rfl rfl rfl rfl rfl (by simp) (AWp.of ?_);simp only[go_sem]
 refine Wk ?_
 refine Sd ?_
 refine(trace_Valid ps hs).val.use ?_;simp only[go_sem]
 refine Sd ?_
 refine GCall.use (ab (l.any fun c => !decide (c.length=ps.length))) (fun _=>⟨At,(rows_containsFunc l hl (.clo 242 [.rp 1 [aTr ps] 0 0]) rfl (fun c => !decide (c.length=ps.length)) fun c _=>(cut_sized1 ps c).clo).val.use ⟨rfl,rfl⟩⟩) ?_;simp only[go_sem]
 refine Wk ?_
 refine ret_eq ?_;simp only[go_sem]
 rfl
theorem valid_len {ps:List Pr} (h:validF ps=true):1≤ps.length∧ps.length≤8:=by
 unfold validF faultF at h
 simp only[decide_eq_true_eq] at h
 split at h
 ·simp at h
 ·rename_i hn
  have hn':inI ps.length 1 8=true:=by simpa using hn
  simp only[inI,Bool.and_eq_true,decide_eq_true_eq] at hn'
  omega
theorem findIn_or (ps:List Pr) (kind m:Int):findIn (evIds ps) kind m=(0,0)∨VEv ps (findIn (evIds ps) kind m):=by
 unfold findIn
 cases hf:(evIds ps).find? (fun x=>decide (x.2.kind=kind) && decide (x.2.msg=m)) with
 | none=>exact .inl rfl
 | some x=>exact .inr (VEv.of_mem (List.mem_of_find?_eq_some hf))
theorem findIn_proc {ps:List Pr} (h:1≤ps.length) (kind m:Int):0≤(findIn (evIds ps) kind m).1∧(findIn (evIds ps) kind m).1<ps.length:=by
 rcases findIn_or ps kind m with e|⟨p,hp,i,hi,e⟩
 ·rw[e];constructor
  ·exact Int.le_refl 0
  ·show (0:Int)<_;omega
 ·rw[e];constructor
  ·show (0:Int)≤(p:Int);omega
  ·show (p:Int)<_;omega
def cAt (c:List Int) (p:Int):Int:=c.getD p.toNat 0
theorem cAt_nat {c:List Int} {p:Nat} (h:p<c.length):cAt c p=c[p]:=by simp [cAt,List.getD_eq_getElem?_getD,h]
theorem getD_cAt {c:List Int} {p:Int} (h0:0≤p) (h:p<c.length):(c.map ai).getD p.toNat .any=ai (cAt c p):=by
 have h2:p.toNat<c.length:=by omega
 rw[getD_map h2];unfold cAt;simp [List.getD_eq_getElem?_getD,h2]
def badEv (ps:List Pr) (c:List Int) (x:Eid × Ev):Bool :=
 decide (x.2.kind=3) && decide (x.1.2≤cAt c x.1.1) && decide (cAt c (findIn (evIds ps) 2 x.2.msg).1<(findIn (evIds ps) 2 x.2.msg).2)
def missF (ps:List Pr) (c:List Int):Option (Eid × Eid):=((evIds ps).find? (badEv ps c)).map fun x=>(findIn (evIds ps) 2 x.2.msg,x.1)
def closedF (ps:List Pr) (c:List Int):Bool:=!(evIds ps).any (badEv ps c)
theorem missF_hit {ps:List Pr} {c:List Int} {k:Nat} {x:Eid × Ev} (hx:(evIds ps)[k]?=some x) (h0:∀(j:Nat) (y:Eid × Ev),j<k→(evIds ps)[j]?=some y→badEv ps c y=false) (h:badEv ps c x=true) :
  missF ps c=some (findIn (evIds ps) 2 x.2.msg,x.1):=by
 obtain⟨hk,he⟩:=List.getElem?_eq_some_iff.1 hx
 have:(evIds ps).find? (badEv ps c)=some x:=by
  rw[List.find?_eq_some_iff_getElem]
  exact⟨h,k,hk,he,fun j hj=>by simpa using h0 j _ hj (List.getElem?_eq_getElem (by omega))⟩
 unfold missF;rw[this];rfl
theorem missF_none {ps:List Pr} {c:List Int} (h:∀(j:Nat) (y:Eid × Ev),(evIds ps)[j]?=some y→badEv ps c y=false):missF ps c=none:=by
 have:(evIds ps).find? (badEv ps c)=none:=by
  rw[List.find?_eq_none];intro y hy
  obtain⟨j,hj⟩:=List.getElem?_of_mem hy
  simpa using h j y hj
 unfold missF;rw[this];rfl
theorem closedF_iff (ps:List Pr) (c:List Int):closedF ps c=(missF ps c).isNone:=by
 unfold closedF missF
 cases h:(evIds ps).find? (badEv ps c) with
 | none =>
  rw[List.find?_eq_none] at h
  have:(evIds ps).any (badEv ps c)=false:=by rw[List.any_eq_false];exact h
  rw[this];rfl
 | some x =>
  have:(evIds ps).any (badEv ps c)=true:=List.any_eq_true.2 ⟨x,List.mem_of_find?_eq_some h,List.find?_some h⟩
  rw[this];rfl
def aMiss (ps:List Pr) (c:List Int):AV:=match missF ps c with
 | some (s,r) => .tup [aEid s,aEid r,ab true]
 | none => .tup [aEid (0,0),aEid (0,0),ab false]
theorem inRangeF_get {ps:List Pr} {c:List Int} (h:inRangeF ps c=true) (hc:c.length=ps.length) {p:Nat} (hp:p<ps.length):0≤c[p]∧c[p]≤ps[p].evs.length:=by
 unfold inRangeF at h
 rw[List.all_eq_true] at h
 have:=h p (List.mem_range.2 (by omega))
 have hp':p<c.length:=by omega
 simp only[cntOk,List.getElem?_eq_getElem hp,List.getElem?_eq_getElem hp',Bool.and_eq_true,decide_eq_true_eq] at this
 exact this
theorem cut_missing (ps:List Pr) (hs:Sm ps) (c:List Int) (hv:validF ps=true) (hc:c.length=ps.length) (hr:inRangeF ps c=true):PC Proofs.Tryz.prog 227 [aTr ps,aInts c] (aMiss ps c):=by
 obtain⟨hl1,hl8⟩:=valid_len hv
 have hfv:∀m,findV ps 2 m=findIn (evIds ps) 2 m:=fun m=>by unfold findV;rw[hv];rfl
 refine PC.enter 61 [.cell 4 29,.cell 5 29,.tmp 6] [2,10,11] Proofs.Tryz.func227 rfl rfl rfl rfl rfl (by simp) (AWp.of ?_);simp only[go_sem]
 intro b4
 intro b5 h5
 have n45:¬b4=b5:=by omega
 have n54:¬b5=b4:=by omega
 refine Sd ?_
 refine AWp.of ?_;simp only[go_sem]
 refine AWp.range' c.length [] [1,2,4,5,13,14] (fun k vs L=>L=[(b5,.row 29 2 [aEid (0,0)] 1),(b4,.row 29 2 [aEid (0,0)] 1)]∧∀(j:Nat) (y:Eid × Ev),j<off ps k→(evIds ps)[j]?=some y→badEv ps c y=false) (by omega) rfl rfl rfl ⟨by simp [aEid],by simp [off]⟩ ?_ ?_
 ·rintro p vs L' hp - ⟨rfl,hI⟩
  have hpp:p<ps.length:=by omega
  obtain⟨hr1,hr2⟩:=inRangeF_get hr hc hpp
  have hel:=hs.evs _ (List.getElem_mem hpp)
  have hT:(ps[p].evs.take c[p].toNat).length=c[p].toNat:=by rw[List.length_take];omega
  simp only[go_sem]
  repeat(first|((with_reducible refine AWp.ofC ?_ ?_);exact rfl;simp only[go_sem,getD_map hp,getD_map hpp,hT])|((with_reducible refine an ?_ ?_);exact Au))
  refine AWp.range' c[p].toNat [] [1,2,4,5,7,13,14,15,27,28] (fun i vs L=>L=[(b5,.row 29 2 [aEid (0,0)] 1),(b4,.row 29 2 [aEid (0,0)] 1)]∧∀(j:Nat) (y:Eid × Ev),j<off ps p+i→(evIds ps)[j]?=some y→badEv ps c y=false) (by omega) rfl rfl rfl ⟨by simp [aEid],hI⟩ ?_ ?_
  ·rintro i vs L' hi - ⟨rfl,hI⟩
   have hi':i<(ps[p].evs.take c[p].toNat).length:=by omega
   have hie:i<ps[p].evs.length:=by omega
   have hge:(ps[p].evs.take c[p].toNat)[i]=ps[p].evs[i]:=List.getElem_take
   have hev:=evIds_get hpp hie
   have hbad:badEv ps c (((p:Int),(i:Int)+1),ps[p].evs[i])=(decide (ps[p].evs[i].kind=3) && decide (cAt c (findIn (evIds ps) 2 ps[p].evs[i].msg).1<(findIn (evIds ps) 2 ps[p].evs[i].msg).2)):=by
    simp only[badEv,cAt_nat hp,decide_eq_true (show (i:Int)+1≤c[p] by omega),Bool.and_true]
   simp only[go_sem]
   refine Sd ?_
   refine AWp.of ?_;simp only[go_sem,getD_map hi',hge]
   refine Sd ?_
   intros
   refine Wk ?_
   refine⟨fun h1 => ?_,fun h1 => ?_⟩
   ·refine⟨_,List.Sublist.refl _,rfl,fun j y hj hy => ?_⟩
    by_cases e:j=off ps p+i
    ·subst e;rw[hev] at hy;cases hy;rw[hbad,decide_eq_false h1];rfl
    ·exact hI j y (by omega) hy
   ·obtain⟨hf1,hf2⟩:=findIn_proc hl1 2 ps[p].evs[i].msg
    rw[decide_eq_true h1,Bool.true_and] at hbad
    have hs1:=trace_Sender ps hs ps[p].evs[i].msg
    rw[hfv] at hs1
    have hgc:=getD_cAt (c:=c) hf1 (by omega)
    generalize hsd:findIn (evIds ps) 2 ps[p].evs[i].msg=s at *
    refine Wk ?_
    refine Sd ?_
    refine(hs1).val.use ?_;simp only[go_sem]
    refine Sd ?_
    intros
    refine AWp.seq ?_
    refine AWp.drawn mixed 8 (by kernel_rfl) ?_;simp only[go_sem,hgc]
    refine Sd ?_
    refine W2 n45 n54 ?_
    refine⟨fun h2 => ?_,fun h2 => ?_⟩
    ·refine W2 n45 n54 ?_
     have hm:=missF_hit hev hI (by rw[hbad];exact decide_eq_true h2)
     rw[hsd] at hm
     have hmm:aMiss ps c = .tup [aEid s,aEid ((p:Int),(i:Int)+1),ab true]:=by unfold aMiss;rw[hm]
     rw[hmm]
     refine ret_eq ?_
     simp only[go_sem,n45,n54]
    ·refine⟨_,List.Sublist.refl _,rfl,fun j y hj hy => ?_⟩
     by_cases e:j=off ps p+i
     ·subst e;rw[hev] at hy;cases hy;rw[hbad];exact decide_eq_false h2
     ·exact hI j y (by omega) hy
  ·rintro vs L' - ⟨rfl,hI⟩
   simp only[go_sem]
   refine⟨_,List.Sublist.refl _,rfl,fun j y hj hy => ?_⟩
   rw[off_succ hpp] at hj
   by_cases e:j<off ps p+c[p].toNat
   ·exact hI j y e hy
   ·obtain⟨i,hi⟩:∃i,j=off ps p+i:=⟨j - off ps p,by omega⟩
    subst hi
    have hie:i<ps[p].evs.length:=by omega
    rw[evIds_get hpp hie] at hy;cases hy
    simp only[badEv,cAt_nat hp,decide_eq_false (show ¬(i:Int)+1≤c[p] by omega),Bool.and_false,Bool.false_and]
 ·rintro vs L' - ⟨rfl,hI⟩
  have hm:=missF_none (ps:=ps) (c:=c) (fun j y hy=>hI j y (by rw[hc,← evIds_length];exact(List.getElem?_eq_some_iff.1 hy).1) hy)
  have hmm:aMiss ps c = .tup [aEid (0,0),aEid (0,0),ab false]:=by unfold aMiss;rw[hm]
  simp only[go_sem]
  refine W2 n45 n54 ?_
  rw[hmm]
  refine ret_eq ?_
  simp only[go_sem,n45,n54]
theorem cut_closed (ps:List Pr) (hs:Sm ps) (c:List Int) (hv:validF ps=true) (hc:c.length=ps.length) (hr:inRangeF ps c=true):PC Proofs.Tryz.prog 185 [aTr ps,aInts c] (ab (closedF ps c)):=by
 have hm:=cut_missing ps hs c hv hc hr
 rw[closedF_iff]
 unfold aMiss at hm
 refine PC.enter 17 [.tmp 4] [2,5,6] Proofs.Tryz.func185 rfl rfl rfl rfl rfl (by simp) (AWp.of ?_);simp only[go_sem]
 refine Wk ?_
 cases h:missF ps c with
 | none =>
  rw[h] at hm
  refine Sd ?_
  refine(hm).val.use ?_;simp only[go_sem]
  refine Sd ?_
  intro b5 b6 h6
  have n56:¬b5=b6:=by omega
  have n65:¬b6=b5:=by omega
  simp only[go_sem,n56,n65]
  refine Wk ?_
  refine ret_eq ?_;simp only[go_sem]
  rfl
 | some x =>
  obtain⟨a,b⟩:=x
  rw[h] at hm
  refine Sd ?_
  refine(hm).val.use ?_;simp only[go_sem]
  refine Sd ?_
  intro b5 b6 h6
  have n56:¬b5=b6:=by omega
  have n65:¬b6=b5:=by omega
  simp only[go_sem,n56,n65]
  refine Wk ?_
  refine ret_eq ?_;simp only[go_sem]
  rfl
noncomputable def givenF (ps:List Pr) (l:List (List Int)) (procs:List Int):Int :=
 if !sizedF ps l then 1 else if !l.all (inRangeF ps) then 2 else if !procs.all (fun p=>decide (0≤p) && decide (p<ps.length)) then 2 else if !l.all (closedF ps) then 18 else 0
theorem sizedF_inv {ps:List Pr} {l:List (List Int)} (h:sizedF ps l=true):validF ps=true∧∀c ∈ l,c.length=ps.length:=by
 unfold sizedF at h
 rw[Bool.and_eq_true] at h
 refine⟨h.1,fun c hc => ?_⟩
 have:=h.2
 rw[Bool.not_eq_true',List.any_eq_false] at this
 simpa using this c hc
theorem all_of_lt {α:Type} {l:List α} {p:α→Bool} (h:∀(i:Nat) (hi:i<l.length),p l[i]=true):l.all p=true:=by
 rw[List.all_eq_true];intro x hx;obtain⟨i,hi,rfl⟩:=List.getElem_of_mem hx;exact h i hi
theorem all_false_at {α:Type} {l:List α} {p:α→Bool} {i:Nat} (hi:i<l.length) (h:p l[i]=false):l.all p=false:=by
 rw[List.all_eq_false];exact⟨l[i],List.getElem_mem hi,by simp [h]⟩
theorem cut_given (ps:List Pr) (hs:Sm ps) (l:List (List Int)) (hl:l.length≤1000000) (procs:List Int) (hp:procs.length≤1000000):PC Proofs.Tryz.prog 109 [aTr ps,aRows l,aInts procs] (ai (givenF ps l procs)):=by
 refine PC.enter 50 [.tmp 6] [3] Proofs.Tryz.func109 rfl rfl rfl rfl rfl (by simp) (AWp.of ?_);simp only[go_sem]
 refine Wk ?_
 refine Sd ?_
 refine(cut_sized ps hs l hl).val.use ?_;simp only[go_sem]
 refine Wk ?_
 refine⟨fun h1 => ?_,fun h1 => ?_⟩
 ·refine Wk ?_
  refine ret_eq ?_;simp only[go_sem]
  unfold givenF;rw[if_pos (by simp [h1])]
 ·obtain⟨hv,hc⟩:=sizedF_inv h1
  refine Sd ?_
  refine AWp.of ?_;simp only[go_sem]
  refine AWp.range' l.length [] [1,2,3,17,18] (fun k vs L=>L=[]∧∀(i:Nat) (hi:i<l.length),i<k→inRangeF ps l[i]=true) (by omega) rfl rfl rfl ⟨rfl,by omega⟩ ?_ ?_
  ·rintro k vs L' hk - ⟨rfl,hI⟩
   simp only[go_sem]
   refine Sd ?_
   refine AWp.of ?_;simp only[go_sem,getD_map hk]
   refine Wk ?_
   refine Sd ?_
   refine(cut_inRange ps hs l[k] (hc _ (List.getElem_mem hk))).val.use ?_;simp only[go_sem]
   refine Wk ?_
   refine⟨fun h2 => ?_,fun h2 => ?_⟩
   ·refine Wk ?_
    refine ret_eq ?_;simp only[go_sem]
    unfold givenF;rw[if_neg (by simp [h1]),if_pos (by rw[all_false_at hk h2];rfl)]
   ·refine⟨_,List.Sublist.refl _,rfl,fun i hi hik => ?_⟩
    by_cases e:i=k
    ·subst e;exact h2
    ·exact hI i hi (by omega)
  ·rintro vs L' - ⟨rfl,hI⟩
   have ha:=all_of_lt (p:=inRangeF ps) (fun i hi=>hI i hi hi)
   simp only[go_sem]
   refine Sd ?_
   refine AWp.of ?_;simp only[go_sem]
   refine AWp.range' procs.length [] [1,3,28,29] (fun k vs L=>L=[]∧∀(i:Nat) (hi:i<procs.length),i<k→(decide (0≤procs[i]) && decide (procs[i]<ps.length))=true) (by omega) rfl rfl rfl ⟨rfl,by omega⟩ ?_ ?_
   ·rintro k vs L' hk - ⟨rfl,hI⟩
    simp only[go_sem]
    refine Sd ?_
    refine AWp.of ?_;simp only[go_sem,getD_map hk]
    refine Wk ?_
    refine Sd ?_
    refine(cut_process ps procs[k]).val.use ?_;simp only[go_sem]
    refine Wk ?_
    refine⟨fun h2 => ?_,fun h2 h3 => ?_⟩
    ·refine Wk ?_
     refine ret_eq ?_;simp only[go_sem]
     unfold givenF;rw[if_neg (by simp [h1]),if_neg (by simp [ha]),if_pos (by rw[all_false_at hk (by simpa using h2)];rfl)]
    ·refine⟨_,List.Sublist.refl _,rfl,fun i hi hik => ?_⟩
     by_cases e:i=k
     ·subst e;exact⟨h2,h3⟩
     ·have:=hI i hi (by omega);simpa using this
   ·rintro vs L' - ⟨rfl,hI⟩
    have hb:=all_of_lt (l:=procs) (p:=fun p=>decide (0≤p) && decide (p<(ps.length:Int))) (fun i hi=>by have:=hI i hi hi;simpa using this)
    simp only[go_sem]
    refine Sd ?_
    refine AWp.of ?_;simp only[go_sem]
    refine AWp.range' l.length [] [3,39,40] (fun k vs L=>L=[]∧∀(i:Nat) (hi:i<l.length),i<k→closedF ps l[i]=true) (by omega) rfl rfl rfl ⟨rfl,by omega⟩ ?_ ?_
    ·rintro k vs L' hk - ⟨rfl,hI⟩
     have hir:inRangeF ps l[k]=true:=by rw[List.all_eq_true] at ha;exact ha _ (List.getElem_mem hk)
     simp only[go_sem]
     refine Sd ?_
     refine AWp.of ?_;simp only[go_sem,getD_map hk]
     refine Wk ?_
     refine Sd ?_
     refine(cut_closed ps hs l[k] hv (hc _ (List.getElem_mem hk)) hir).val.use ?_;simp only[go_sem]
     refine Wk ?_
     refine⟨fun h2 => ?_,fun h2 => ?_⟩
     ·refine Wk ?_
      refine ret_eq ?_;simp only[go_sem]
      unfold givenF;rw[if_neg (by simp [h1]),if_neg (by simp [ha]),if_neg (by rw[hb];decide),if_pos (by rw[all_false_at hk h2];rfl)]
     ·refine⟨_,List.Sublist.refl _,rfl,fun i hi hik => ?_⟩
      by_cases e:i=k
      ·subst e;exact h2
      ·exact hI i hi (by omega)
    ·rintro vs L' - ⟨rfl,hI⟩
     have hd:=all_of_lt (p:=closedF ps) (fun i hi=>hI i hi hi)
     simp only[go_sem]
     refine Wk ?_
     refine ret_eq ?_;simp only[go_sem]
     unfold givenF;rw[if_neg (by simp [h1]),if_neg (by simp [ha]),if_neg (by rw[hb];decide),if_neg (by rw[hd];decide)]
def frontL:Nat→List Int→List Eid
 | _,[]=>[]
 | p,n :: r=>(if 0<n then [((p:Int),n)] else []) ++ frontL (p+1) r
theorem frontL_append (l r:List Int) (p:Nat):frontL p (l ++ r)=frontL p l ++ frontL (p+l.length) r:=by
 induction l generalizing p with
 | nil=>rfl
 | cons n l ih=>simp only[List.cons_append,frontL,ih,List.append_assoc,List.length_cons];rw[show p+1+l.length=p+(l.length+1) by omega]
theorem frontL_length (l:List Int) (p:Nat):(frontL p l).length≤l.length:=by
 induction l generalizing p with
 | nil=>simp [frontL]
 | cons n l ih =>
  have:=ih (p+1)
  simp only[frontL,List.length_append,List.length_cons]
  split <;> simp <;> omega
theorem frontL_succ (c:List Int) (k:Nat) (hk:k<c.length):frontL 0 (c.take (k+1))=frontL 0 (c.take k) ++ (if 0<c[k] then [((k:Int),c[k])] else []):=by
 rw[List.take_succ_eq_append_getElem hk,frontL_append]
 simp only[frontL,List.append_nil,List.length_take]
 rw[show 0+min k c.length=k by omega]
noncomputable def aFront (ps:List Pr) (c:List Int):AV:=if givenF ps [c] [] ≠ 0 then .tup [.sl 2 [],ai (givenF ps [c] [])] else .tup [aEids (frontL 0 c),ai 0]
theorem cut_Frontier (ps:List Pr) (hs:Sm ps) (c:List Int) (hcl:c.length≤1000000):PC Proofs.Tryz.prog 63 [aTr ps,aInts c] (aFront ps c):=by
 have hg:=cut_given ps hs [c] (by simp) [] (by simp)
 refine PC.enter 34 [.tmp 4,.tmp 5] [2,12,30] Proofs.Tryz.func63 rfl rfl rfl rfl rfl (by simp) (AWp.of ?_);simp only[go_sem]
 refine Wk ?_
 refine(PC.view (Vws.cons (.refl _) (Vws.cons (.refl _) (Vws.cons (.nil 1) .nil))) hg (Own.v _) ?_).val
 unfold aFront
 simp only[go_sem]
 refine Wk ?_
 refine⟨fun h1 => ?_,fun h1 => ?_⟩
 ·rw[if_pos h1]
  refine Wk ?_
  refine ret_view [] ?_;simp only[go_sem]
  exact .mkTup (Vws.cons (.nil 2) (Vws.refl _))
 ·rw[if_neg (by simp [h1])]
  refine Sd ?_
  refine AWp.of ?_;simp only[go_sem]
  refine Sd ?_
  refine AWp.of ?_;simp only[go_sem]
  refine AWp.range' c.length [7] [17,18] (fun k vs L=>∃v,vs=[v]∧AppSt 29 2 ((frontL 0 (c.take k)).map aEid) v L) (by omega) rfl rfl rfl ⟨anil,rfl,by simp only[List.take_zero,frontL,List.map_nil];exact .nil⟩ ?_ ?_
  ·rintro k vs L' hk - ⟨v,rfl,hA⟩
   have hfl:=frontL_length (c.take k) 0
   have htl:(c.take k).length≤c.length:=by simp;omega
   have hsu:=frontL_succ c k hk
   rcases hA.inv with ⟨e1,rfl,rfl⟩|⟨b,cap,rfl,rfl⟩
   ·simp only[go_sem]
    refine Sd ?_
    refine AWp.of ?_;simp only[go_sem,getD_map hk]
    refine Wk ?_
    refine⟨fun h2 => ?_,fun h2 => ?_⟩
    ·refine Wk ?_
     intro b' cap' _
     refine⟨_,List.Sublist.refl _,_,rfl,?_⟩
     rw[hsu,if_pos h2,List.map_append,e1]
     exact .row b' _ cap'
    ·exact⟨_,List.Sublist.refl _,_,rfl,by rw[hsu,if_neg h2,List.append_nil];exact hA⟩
   ·simp only[go_sem]
    refine Sd ?_
    refine AWp.of ?_;simp only[go_sem,getD_map hk]
    refine Wk ?_
    refine⟨fun h2 => ?_,fun h2 => ?_⟩
    ·refine Sd ?_
     intro b' cap' _
     refine⟨_,List.Sublist.refl _,_,rfl,?_⟩
     rw[hsu,if_pos h2,List.map_append]
     have:=AppSt.row (t:=29) (k:=2) b' (List.map aEid (frontL 0 (List.take k c)) ++ List.map aEid [((k:Int),c[k])]) cap'
     simpa [aEid] using this
    ·exact⟨_,List.Sublist.refl _,_,rfl,by rw[hsu,if_neg h2,List.append_nil];simpa using hA⟩
  ·rintro vs L' - ⟨v,rfl,hA⟩
   rw[List.take_length] at hA
   simp only[go_sem]
   rcases hA.inv with ⟨e1,rfl,rfl⟩|⟨b,cap,rfl,rfl⟩
   ·refine Wk ?_
    refine ret_view [] ?_;simp only[go_sem]
    rw[e1]
    exact .mkTup (Vws.cons (.nil 2) (Vws.refl _))
   ·refine Wk ?_
    refine ret_view [true] ?_;simp only[go_sem]
    exact .mkTup (Vws.cons (Vw.ofLs (if_pos rfl) (by simp)) (Vws.refl _))
def assignL (s:List Int) (l:List (Int × Int)):List Int:=l.foldl (fun s a=>s.set a.1.toNat a.2) s
def stateAt (x:Pr) (k:Nat):List Int:=(x.evs.take k).foldl (fun s e=>assignL s e.asg) (x.vars.map (·.2))
theorem assignL_length (l:List (Int × Int)) (s:List Int):(assignL s l).length=s.length:=by
 induction l generalizing s with
 | nil=>rfl
 | cons a l ih=>simp only[assignL,List.foldl_cons] at *;rw[ih];simp
theorem stateAt_length (x:Pr) (k:Nat):(stateAt x k).length=x.vars.length:=by
 unfold stateAt
 generalize x.evs.take k=l
 have key:∀s:List Int,(l.foldl (fun s e=>assignL s e.asg) s).length=s.length:=by
  induction l with
  | nil=>intro s;rfl
  | cons e l ih=>intro s;simp only[List.foldl_cons];rw[ih,assignL_length]
 rw[key];simp
theorem stateAt_succ (x:Pr) (k:Nat) (hk:k<x.evs.length):stateAt x (k+1)=assignL (stateAt x k) x.evs[k].asg:=by
 unfold stateAt
 rw[List.take_succ_eq_append_getElem hk,List.foldl_append];rfl
theorem assignL_succ (s:List Int) (l:List (Int × Int)) (k:Nat) (hk:k<l.length):assignL s (l.take (k+1))=(assignL s (l.take k)).set l[k].1.toNat l[k].2:=by
 unfold assignL
 rw[List.take_succ_eq_append_getElem hk,List.foldl_append];rfl
def stArgs (x:Pr):List (List AV):=(List.range (x.evs.length+1)).map fun (k:Nat)=>[ai k,aInts (stateAt x k)]
theorem stArgs_get (x:Pr) (k:Nat) (hk:k≤x.evs.length):(stArgs x)[k]?=some [ai k,aInts (stateAt x k)]:=by
 unfold stArgs;rw[List.getElem?_map,List.getElem?_range (by omega)];rfl
def AsgOk (x:Pr):Prop:=∀e ∈ x.evs,∀a ∈ e.asg,0≤a.1∧a.1<x.vars.length
theorem variable_states (x:Pr):PC Proofs.Tryz.prog 312 [aPr x] (.clo 328 [.rp 3 [aPr x] 0 0]):=by
 refine PC.enter 4 [.tmp 2] [1] Proofs.Tryz.func312 rfl rfl rfl rfl rfl (by simp) (AWp.of ?_);simp only[go_sem]
 refine Wk ?_
 refine ret_eq ?_;simp only[go_sem]
theorem variable_states1 (x:Pr) (h1:x.vars.length≤1000000) (h2:x.evs.length≤1000000) (h3:∀e ∈ x.evs,e.asg.length≤1000000) (ha:AsgOk x):IterC Proofs.Tryz.prog (.clo 328 [.rp 3 [aPr x] 0 0]) (stArgs x):=by
 intro y L I S hy h0 step
 refine MCalls.clo ?_
 simp only[List.cons_append,List.nil_append]
 have step':∀(k:Nat) (hk:k≤x.evs.length) L',I k L'→MVal Proofs.Tryz.prog y [ai k,aInts (stateAt x k)] L' fun r L''=>(r=ab true∧I (k+1) L'')∨(r=ab false∧S L''):=fun k hk L' hI =>
  step k _ L' (stArgs_get x k hk) hI
 have hlen:(stArgs x).length=x.evs.length+1:=by unfold stArgs;simp
 rw[hlen]
 refine MCalls.enter' 58 [] [5,7,9,20] Proofs.Tryz.func328 rfl rfl rfl rfl rfl (by simp) (AWp.of ?_);simp only[go_sem]
 refine AWp.cut [0,1,3] (fun vs L'=>∃v Ln,vs=[y,.rp 3 [aPr x] 0 0,v]∧L'=Ln ++ L∧AppSt 3 1 ((x.vars.map (·.2)).map ai) v Ln) ?_ ?_
 ·refine Sd ?_
  refine AWp.of ?_;simp only[go_sem]
  refine AWp.range' x.vars.length [3] [0,1,11,12] (fun k vs L'=>∃v Ln,vs=[v]∧L'=Ln ++ L∧AppSt 3 1 (((x.vars.take k).map (·.2)).map ai) v Ln) (by omega) rfl rfl rfl ⟨anil,[],rfl,rfl,.nil⟩ ?_ ?_
  ·rintro k vs L' hk - ⟨v,Ln,rfl,rfl,hA⟩
   have hsu:((x.vars.take (k+1)).map (·.2)).map ai=((x.vars.take k).map (·.2)).map ai ++ [ai x.vars[k].2]:=by
    rw[List.take_succ_eq_append_getElem hk,List.map_append,List.map_append];rfl
   have htl:(x.vars.take k).length≤x.vars.length:=by simp;omega
   rw[hsu]
   generalize hys:((x.vars.take k).map (·.2)).map ai=ys at *
   have hyl:ys.length≤x.vars.length:=by rw[← hys];simpa using htl
   rcases hA.inv with ⟨e1,rfl,rfl⟩|⟨b,cap,rfl,rfl⟩
   ·simp only[go_sem]
    refine Sd ?_
    refine AWp.of ?_;simp only[go_sem,getD_map hk]
    refine Sd ?_
    intros
    refine AWp.of ?_;simp only[go_sem]
    refine Sd ?_
    intro b' cap' _ _
    refine⟨_,List.Sublist.refl _,_,[(b',.row 3 1 [ai x.vars[k].2] cap')],rfl,rfl,?_⟩
    rw[e1]
    exact .row _ _ _
   ·simp only[go_sem]
    refine Sd ?_
    refine AWp.of ?_;simp only[go_sem,getD_map hk]
    refine Sd ?_
    intros
    refine AWp.of ?_;simp only[go_sem]
    refine Sd ?_
    intro b' cap' _ _
    refine⟨_,List.Sublist.refl _,_,[(b',.row 3 1 (ys ++ [ai x.vars[k].2]) cap')],rfl,rfl,?_⟩
    have:=AppSt.row (t:=3) (k:=1) b' (ys ++ [ai x.vars[k].2]) cap'
    simpa using this
  ·rintro vs L' - ⟨v,Ln,rfl,rfl,hA⟩
   simp only[go_sem]
   rw[List.take_length] at hA
   exact⟨_,List.Sublist.refl _,_,_,rfl,rfl,hA⟩
 ·rintro vs L' - ⟨v,Ln,rfl,rfl,hA⟩
  have hst0:x.vars.map (·.2)=stateAt x 0:=by simp [stateAt]
  rw[hst0] at hA
  have hfo:=hA.fo
  -- one call of the round,with a copy of what the memory holds
  have give:∀(k:Nat) (Ln Li:AHeap) (_:k≤x.evs.length),AppSt 3 1 ((stateAt x k).map ai) v Ln→I k Li →
    MVal Proofs.Tryz.prog (.v (.func (.func 51) #[] #[])) [v] (Ln ++ Li) fun r L'=>fo r=(True,r)∧∀K:AV→AHeap→Prop,
     (∀L2,I (k+1) L2→K (ab true) (Ln ++ L2))→(∀L2,S L2→K (ab false) (Ln ++ L2))→MVal Proofs.Tryz.prog y [ai k,r] L' K:=fun k Ln Li hk hA hI=>by
   have hc:=(MCalls.viewed (Vws.cons (hA.vw Li) .nil) (ints_cloneO (stateAt x k) (by rw[stateAt_length];omega)) (fun r L1 h=>h.own (own_ints _))).val
   refine hc.mono ?_
   rintro r L' ⟨L1,rfl,hA1⟩
   refine⟨hA1.fo,fun K h1 h2 => ?_⟩
   have hvw:Vw L1 r (aInts (stateAt x k)):=by have:=hA1.vw [];rw[List.append_nil] at this;exact this
   refine MVal.pass (Lf:=L1) (Li:=Li) (Lr:=Ln) (List.Perm.append_left _ List.perm_append_comm) (Vws.cons (.refl _) (Vws.cons hvw .nil)) (step' k hk Li hI) ?_
   rintro r' L2 (⟨rfl,hI2⟩|⟨rfl,hS⟩)
   ·exact⟨_,List.perm_append_comm,h1 _ hI2⟩
   ·exact⟨_,List.perm_append_comm,h2 _ hS⟩
  simp only[go_sem]
  refine Sd ?_
  refine AWp.of ?_;simp only[go_sem,hfo]
  simp only[hy,true_and]
  refine(give 0 Ln L (by omega) hA h0).mono ?_
  rintro r L' ⟨hr,hK⟩
  simp only[go_sem,hr,hy]
  refine hK _ ?_ ?_
  ·intro L2 hI
   simp only[go_sem]
   refine Sd ?_
   refine AWp.of ?_;simp only[go_sem]
   refine Sd ?_
   refine AWp.of ?_;simp only[go_sem]
   refine AWp.range' x.evs.length [] [0,3,29,30] (fun k vs L'=>∃Ln Li,L'=Ln ++ Li∧I (k+1) Li∧AppSt 3 1 ((stateAt x k).map ai) v Ln) (by omega) rfl rfl rfl ⟨Ln,L2,rfl,hI,hA⟩ ?_ ?_
   ·rintro k vs L' hk - ⟨Ln,Li,rfl,hI,hA⟩
    simp only[go_sem]
    refine Sd ?_
    refine AWp.of ?_;simp only[go_sem,getD_map hk]
    have hem:x.evs[k] ∈ x.evs:=List.getElem_mem hk
    have hal:=h3 _ hem
    have hao:=ha _ hem
    have hsu:=stateAt_succ x k hk
    refine Sd ?_
    intros
    refine AWp.of ?_;simp only[go_sem]
    refine AWp.range' x.evs[k].asg.length [] [0,3,6,29,30,31,37,38] (fun j vs L'=>∃Ln Li,L'=Ln ++ Li∧I (k+1) Li∧AppSt 3 1 ((assignL (stateAt x k) (x.evs[k].asg.take j)).map ai) v Ln) (by omega) rfl rfl rfl ⟨Ln,Li,rfl,hI,hA⟩ ?_ ?_
    ·rintro j vs L' hj - ⟨Ln,Li,rfl,hI,hA⟩
     obtain⟨ha1,ha2⟩:=hao _ (List.getElem_mem hj)
     have hl2:(assignL (stateAt x k) (x.evs[k].asg.take j)).length=x.vars.length:=by rw[assignL_length,stateAt_length]
     have hs2:=assignL_succ (stateAt x k) x.evs[k].asg j hj
     rcases hA.inv with ⟨e1,rfl,rfl⟩|⟨b,cap,rfl,rfl⟩
     ·have:(assignL (stateAt x k) (x.evs[k].asg.take j)).length=0:=by simpa using congrArg List.length e1
      omega
     ·generalize hS':assignL (stateAt x k) (x.evs[k].asg.take j)=s' at *
      have hn:x.evs[k].asg[j].1.toNat<s'.length:=by omega
      simp only[go_sem]
      refine Sd ?_
      refine AWp.of ?_;simp only[go_sem,getD_map hj]
      refine Sd ?_
      intros
      refine AWp.of ?_;simp only[go_sem,getD_map hn]
      refine Sd ?_
      refine⟨_,List.Sublist.refl _,[(b,.row 3 1 ((s'.map ai).set x.evs[k].asg[j].1.toNat (ai x.evs[k].asg[j].2)) cap)],Li,rfl,hI,?_⟩
      rw[hs2,List.map_set]
      have:=AppSt.row (t:=3) (k:=1) b ((s'.map ai).set x.evs[k].asg[j].1.toNat (ai x.evs[k].asg[j].2)) cap
      simpa using this
    ·rintro vs L' - ⟨Ln,Li,rfl,hI,hA⟩
     rw[List.take_length,← hsu] at hA
     simp only[go_sem]
     refine Sd ?_
     refine AWp.of ?_;simp only[go_sem,hfo]
     simp only[hy,true_and]
     refine Sd ?_
     refine(give (k+1) Ln Li (by omega) hA hI).mono ?_
     rintro r L' ⟨hr,hK⟩
     simp only[go_sem,hr,hy]
     refine hK _ ?_ ?_
     ·intro L2 hI
      simp only[go_sem]
      refine Wk ?_
      exact⟨_,List.Sublist.refl _,Ln,L2,rfl,hI,hA⟩
     ·intro L2 hS
      simp only[go_sem]
      refine Wk ?_
      refine ret_sub L2 (List.sublist_append_right _ _) ?_
      simp only[go_sem]
      exact .inr hS
   ·rintro vs L' - ⟨Ln,Li,rfl,hI,hA⟩
    simp only[go_sem]
    refine ret_sub Li (List.sublist_append_right _ _) ?_
    simp only[go_sem]
    exact .inl hI
  ·intro L2 hS
   simp only[go_sem]
   refine Wk ?_
   refine ret_sub L2 (List.sublist_append_right _ _) ?_
   simp only[go_sem]
   exact .inr hS
theorem variable_state (x:Pr) (h1:x.vars.length≤1000000) (h2:x.evs.length≤1000000) (h3:∀e ∈ x.evs,e.asg.length≤1000000) (ha:AsgOk x) (k:Nat) (hk:k≤x.evs.length) :
  PC Proofs.Tryz.prog 278 [aPr x,ai k] (aInts (stateAt x k)):=by
 refine PC.enter 15 [.cell 4 33] [2,3] Proofs.Tryz.func278 rfl rfl rfl rfl rfl (by simp) (AWp.of ?_);simp only[go_sem]
 intro b4
 refine Sd ?_
 refine AWp.of ?_;simp only[go_sem]
 refine Sd ?_
 refine(variable_states x).val.use ?_;simp only[go_sem]
 refine AWp.block (AWp.rangeFunc rfl [3,4] (stArgs x) (fun j L=>L=[(b4,.row 33 1 [anil] 1)]∧j≤k) (fun e L=>e = .ret∧L=[(b4,.row 33 1 [aInts (stateAt x k)] 1)])
  rfl (variable_states1 x h1 h2 h3 ha) (fun y hy=>by obtain⟨j,hj⟩:=List.getElem?_of_mem hy;unfold stArgs at hj;rw[List.getElem?_map,Option.map_eq_some_iff] at hj;obtain⟨_,_,rfl⟩:=hj;rfl) ⟨rfl,by omega⟩ ?_ ?_ ?_)
 ·rintro j y L' l hy ⟨rfl,hj⟩
  have hjl:j≤x.evs.length:=by omega
  rw[stArgs_get x j hjl] at hy
  cases hy
  simp only[go_sem]
  refine Wk ?_
  refine⟨fun h => ?_,fun h => ?_⟩
  ·have:j=k:=by omega
   subst this
   refine Wk ?_
   exact⟨_,List.Sublist.refl _,rfl⟩
  ·exact⟨_,List.Sublist.refl _,rfl,by omega⟩
 ·rintro L' ⟨rfl,hj⟩
  have:(stArgs x).length=x.evs.length+1:=by unfold stArgs;simp
  omega
 ·rintro e L' ⟨he,rfl⟩
  subst he
  show retK _ _ _ _ _
  refine ret_eq ?_
  simp only[go_sem]
def valuesAt (ps:List Pr) (c:List Int):List (List Int):=(ps.zip c).map fun x=>stateAt x.1 x.2.toNat
noncomputable def aAt (ps:List Pr) (c:List Int):AV:=if givenF ps [c] [] ≠ 0 then .tup [.sl 1 [],ai (givenF ps [c] [])] else .tup [aRows (valuesAt ps c),ai 0]
theorem asg_of_valid {ps:List Pr} (h:validF ps=true):∀(p:Nat) (hp:p<ps.length),AsgOk ps[p]:=by
 intro p hp e he a haa
 obtain⟨i,hi,rfl⟩:=List.getElem_of_mem he
 obtain⟨k,hk,rfl⟩:=List.getElem_of_mem haa
 have hef:evFirst ps=none:=by
  unfold validF faultF at h
  simp only[decide_eq_true_eq] at h
  split at h
  ·simp at h
  ·cases h1:procFirst ps with
   | some x =>
    rw[h1] at h
    unfold procFirst at h1
    rw[Option.map_eq_some_iff] at h1
    obtain⟨q,hq,rfl⟩:=h1
    have:=List.find?_some hq
    simp at this
    exact absurd h this
   | none =>
    rw[h1] at h
    cases h2:evFirst ps with
    | none=>rfl
    | some x =>
     rw[h2] at h
     unfold evFirst at h2
     rw[Option.map_eq_some_iff] at h2
     obtain⟨q,hq,rfl⟩:=h2
     have:=List.find?_some hq
     simp at this
     exact absurd h this
 have h0:=evFirst_get hef hp hi
 unfold evF at h0
 simp only[List.getElem?_eq_getElem hp,List.getElem?_eq_getElem hi] at h0
 split at h0
 ·cases h0
 ·split at h0
  ·cases h0
  ·split at h0
   ·cases h0
   ·by_cases hz:∀j,j<ps[p].evs[i].asg.length→asgF ps[p].vars.length ps[p].evs[i].asg j=0
    ·have:=hz k hk
     unfold asgF at this
     simp only[List.getElem?_eq_getElem hk] at this
     split at this
     ·cases this
     ·rename_i hn
      simp only[inI,Bool.or_eq_true,Bool.not_eq_true',Bool.and_eq_false_iff,not_or,decide_eq_false_iff_not] at hn
      omega
    ·exfalso
     apply hz
     intro j hj
     induction j using Nat.strongRecOn with
     | _ j ih =>
      by_cases hj0:asgF ps[p].vars.length ps[p].evs[i].asg j=0
      ·exact hj0
      ·rw[fstF_hit hj (fun m hm=>ih m hm (by omega)) hj0] at h0
       exact absurd h0 hj0
theorem valuesAt_succ {ps:List Pr} {c:List Int} {k:Nat} (hk:k<c.length) (hp:k<ps.length):valuesAt (ps.take (k+1)) (c.take (k+1))=valuesAt (ps.take k) (c.take k) ++ [stateAt ps[k] c[k].toNat]:=by
 unfold valuesAt
 rw[List.take_succ_eq_append_getElem hk,List.take_succ_eq_append_getElem hp,List.zip_append (by simp;omega),List.map_append]
 rfl
theorem givenF_zero {ps:List Pr} {c:List Int} (h:givenF ps [c] []=0):validF ps=true∧c.length=ps.length∧inRangeF ps c=true∧closedF ps c=true:=by
 unfold givenF at h
 split at h
 ·cases h
 ·rename_i h1
  have h1':sizedF ps [c]=true:=by simpa using h1
  obtain⟨hv,hc⟩:=sizedF_inv h1'
  split at h
  ·cases h
  ·rename_i h2
   split at h
   ·cases h
   ·split at h
    ·cases h
    ·rename_i h3
     exact⟨hv,hc c (by simp),by simpa using h2,by simpa using h3⟩
theorem variable_At (ps:List Pr) (hs:Sm ps) (c:List Int) (hcl:c.length≤1000000):PC Proofs.Tryz.prog 222 [aTr ps,aInts c] (aAt ps c):=by
 have hfr:=cut_Frontier ps hs c hcl
 unfold aFront at hfr
 unfold aAt
 refine PC.enter 39 [.tmp 4,.tmp 5] [2,35] Proofs.Tryz.func222 rfl rfl rfl rfl rfl (by simp) (AWp.of ?_);simp only[go_sem]
 refine Wk ?_
 by_cases h1:givenF ps [c] []=0
 ·rw[if_neg (by simp [h1])] at hfr
  rw[if_neg (by simp [h1])]
  obtain⟨hv,hc,hr,_⟩:=givenF_zero h1
  have hao:=asg_of_valid hv
  refine Sd ?_
  refine(hfr).val.use ?_;simp only[go_sem]
  refine Wk ?_
  refine AWp.range' c.length [8] [2,20,21] (fun k vs L=>∃v,vs=[v]∧AppSt 33 1 ((valuesAt (ps.take k) (c.take k)).map aInts) v L) (by omega) rfl rfl rfl ⟨anil,rfl,by simp only[List.take_zero,valuesAt,List.zip_nil_left,List.map_nil];exact .nil⟩ ?_ ?_
  ·rintro k vs L' hk - ⟨v,rfl,hA⟩
   have hkp:k<ps.length:=by omega
   have hm:=List.getElem_mem hkp
   obtain⟨hr1,hr2⟩:=inRangeF_get hr hc hkp
   have hst:=variable_state ps[k] (hs.vars _ hm) (hs.evs _ hm) (hs.asg _ hm) (hao k hkp) c[k].toNat (by omega)
   rw[Int.toNat_of_nonneg hr1] at hst
   rw[valuesAt_succ hk hkp,List.map_append]
   have hyl:((valuesAt (ps.take k) (c.take k)).map aInts).length≤1000000:=by simp [valuesAt];omega
   generalize (valuesAt (ps.take k) (c.take k)).map aInts=ys at *
   have hfo:=hA.fo
   rcases hA.inv with ⟨e1,rfl,rfl⟩|⟨b,cap,rfl,rfl⟩
   ·simp only[go_sem]
    refine Sd ?_
    refine AWp.of ?_;simp only[go_sem,getD_map hk,getD_map hkp]
    refine Sd ?_
    refine AWp.of ?_;simp only[go_sem,getD_map hk,getD_map hkp]
    refine Sd ?_
    refine(hst).val.use ?_;simp only[go_sem]
    refine Sd ?_
    intro b' cap' _
    refine⟨_,List.Sublist.refl _,_,rfl,?_⟩
    rw[e1]
    exact .row _ _ _
   ·simp only[go_sem]
    refine Sd ?_
    refine AWp.of ?_;simp only[go_sem,getD_map hk,getD_map hkp]
    refine Sd ?_
    refine AWp.of ?_;simp only[go_sem,getD_map hk,getD_map hkp]
    refine Sd ?_
    refine(hst).val.use ?_;simp only[go_sem]
    refine Sd ?_
    intro b' cap' _
    refine⟨_,List.Sublist.refl _,_,rfl,?_⟩
    have:=AppSt.row (t:=33) (k:=1) b' (ys ++ [aInts (stateAt ps[k] c[k].toNat)]) cap'
    simpa [aInts] using this
  ·rintro vs L' - ⟨v,rfl,hA⟩
   have e1:valuesAt (ps.take c.length) (c.take c.length)=valuesAt ps c:=by rw[List.take_length,hc,List.take_length]
   rw[e1] at hA
   simp only[go_sem]
   rcases hA.inv with ⟨e1,rfl,rfl⟩|⟨b,cap,rfl,rfl⟩
   ·refine Wk ?_
    refine ret_view [] ?_;simp only[go_sem]
    have:valuesAt ps c=[]:=by simpa using e1
    rw[this]
    exact .mkTup (Vws.cons (.nil 1) (Vws.refl _))
   ·refine Wk ?_
    refine ret_view [true] ?_;simp only[go_sem]
    exact .mkTup (Vws.cons (Vw.ofLs (if_pos rfl) (by simp)) (Vws.refl _))
 ·rw[if_pos h1] at hfr
  rw[if_pos h1]
  refine Sd ?_
  refine(hfr).val.use ?_;simp only[go_sem]
  refine W1 h1 ?_
  refine ret_view [] ?_;simp only[go_sem]
  exact .mkTup (Vws.cons (.nil 1) (Vws.refl _))
def foldF (f:Int→Int→Int):List (List Int)→List Int
 | []=>[]
 | r :: rs=>rs.foldl (List.zipWith f) r
def kZ (l:List (List Int)):List Int:=List.zipWith (fun a b=>a - b) (foldF max l) (foldF min l)
def keptF (l:List (List Int)):Int:=(kZ l).sum
theorem ints_equal (a b:List Int) (ha:a.length≤1000000):PC Proofs.Tryz.prog 18 [aInts a,aInts b] (ab (decide (a=b))):=by
 refine PC.enter 26 [.tmp 4] [] Proofs.Tryz.func18 rfl rfl rfl rfl rfl (by simp) (AWp.of ?_);simp only[go_sem]
 refine Wk ?_
 refine⟨fun h1 => ?_,fun h1 => ?_⟩
 ·refine Wk ?_
  refine ret_eq ?_;simp only[go_sem]
  congr 2;symm;apply decide_eq_false;rintro rfl;exact h1 rfl
 ·have hab:a.length=b.length:=by omega
  refine Sd ?_
  refine AWp.of ?_;simp only[go_sem]
  refine AWp.range' a.length [] [0,1,12] (fun k vs L=>L=[]∧∀(i:Nat) (hi:i<a.length),i<k→a[i]=b[i]) (by omega) rfl rfl rfl ⟨rfl,by omega⟩ ?_ ?_
  ·rintro k vs L' hk - ⟨rfl,hI⟩
   have hkb:k<b.length:=by omega
   simp only[go_sem]
   refine Wk ?_
   refine AWp.seq ?_
   refine AWp.drawn mixed 9 (by kernel_rfl) ?_;simp only[go_sem,getD_map hk,getD_map hkb]
   refine Sd ?_
   refine Wk ?_
   refine⟨fun h2 => ?_,fun h2 => ?_⟩
   ·refine Wk ?_
    refine ret_eq ?_;simp only[go_sem]
    congr 2;symm;apply decide_eq_false;rintro rfl;exact h2 rfl
   ·refine⟨_,List.Sublist.refl _,rfl,fun i hi hik => ?_⟩
    by_cases e:i=k
    ·subst e;exact h2
    ·exact hI i hi (by omega)
  ·rintro vs L' - ⟨rfl,hI⟩
   simp only[go_sem]
   refine Wk ?_
   refine ret_eq ?_;simp only[go_sem]
   congr 2;symm;apply decide_eq_true
   exact List.ext_getElem hab (fun i h1 h2=>hI i h1 h1)
def evq (ps:List Pr) (p k:Nat):Ev:=(ps.getD p ⟨⟨#[]⟩,[],[]⟩).evs.getD k ⟨0,0,0,0,[]⟩
def nev (ps:List Pr) (p:Nat):Nat:=(ps.getD p ⟨⟨#[]⟩,[],[]⟩).evs.length
def sndr (ps:List Pr) (m:Int):Eid:=findIn (evIds ps) 2 m
theorem nev_get {ps:List Pr} {p:Nat} (hp:p<ps.length):nev ps p=ps[p].evs.length:=by simp [nev,hp]
theorem evq_get {ps:List Pr} {p k:Nat} (hp:p<ps.length) (hk:k<ps[p].evs.length):evq ps p k=ps[p].evs[k]:=by simp [evq,hp,hk]
def Rdy (ps:List Pr) (c:Nat→Nat) (p:Nat):Prop :=
 p<ps.length∧c p<nev ps p∧((evq ps p (c p)).kind=3→0<(sndr ps (evq ps p (c p)).msg).2∧(sndr ps (evq ps p (c p)).msg).2≤c (sndr ps (evq ps p (c p)).msg).1.toNat)
instance (ps:List Pr) (c:Nat→Nat) (p:Nat):Decidable (Rdy ps c p):=by unfold Rdy;infer_instance
theorem Rdy.mono {ps:List Pr} {c c':Nat→Nat} {p:Nat} (h:Rdy ps c p) (hc:∀q,c q≤c' q) (hp:c' p=c p):Rdy ps c' p:=by
 obtain⟨h1,h2,h3⟩:=h
 refine⟨h1,by rw[hp];exact h2,fun hk => ?_⟩
 rw[hp] at hk ⊢
 obtain⟨g1,g2⟩:=h3 hk
 have:=hc (sndr ps (evq ps p (c p)).msg).1.toNat
 exact⟨g1,by omega⟩
def joinV (v w:List Int):List Int:=List.zipWith max v w
def tickV (v:List Int) (p:Nat):List Int:=v.set p (v.getD p 0+1)
def stOf (S:Nat→List (List Int)) (p k:Nat):List Int:=(S p).getD k []
def preV (ps:List Pr) (S:Nat→List (List Int)) (p k:Nat):List Int:=if k=0 then List.replicate ps.length 0 else stOf S p (k - 1)
def rawV (ps:List Pr) (S:Nat→List (List Int)) (p k:Nat):List Int :=
 if (evq ps p k).kind=3 then joinV (preV ps S p k) (stOf S (sndr ps (evq ps p k).msg).1.toNat ((sndr ps (evq ps p k).msg).2 - 1).toNat) else preV ps S p k
def vecV (ps:List Pr) (S:Nat→List (List Int)) (p k:Nat):List Int:=tickV (rawV ps S p k) p
def upS (S:Nat→List (List Int)) (p:Nat) (v:List Int):Nat→List (List Int):=fun q=>if q=p then S p ++ [v] else S q
def lenS (S:Nat→List (List Int)):Nat→Nat:=fun q=>(S q).length
inductive Gen (ps:List Pr):(Nat→List (List Int))→Prop
 | init:Gen ps fun _=>[]
 | step {S:Nat→List (List Int)} {p:Nat} (h:Gen ps S) (hr:Rdy ps (lenS S) p):Gen ps (upS S p (vecV ps S p (S p).length))
theorem getD_set0 (v:List Int) (p j:Nat) (x:Int):(v.set p x).getD j 0=if p=j∧p<v.length then x else v.getD j 0:=by
 rw[List.getD_eq_getElem?_getD,List.getElem?_set]
 by_cases h:p=j
 ·subst h
  by_cases h2:p<v.length
  ·simp [h2]
  ·simp [h2]
 ·simp [h,List.getD_eq_getElem?_getD]
theorem joinV_getD {v w:List Int} (h:v.length=w.length) (j:Nat):(joinV v w).getD j 0=max (v.getD j 0) (w.getD j 0):=by
 unfold joinV
 rw[List.getD_eq_getElem?_getD,List.getElem?_zipWith]
 by_cases hj:j<v.length
 ·have hw:j<w.length:=by omega
  simp [hj,hw]
 ·have hw:¬j<w.length:=by omega
  simp [hj,hw]
theorem joinV_length {v w:List Int} (h:v.length=w.length):(joinV v w).length=v.length:=by unfold joinV;rw[List.length_zipWith];omega
theorem tickV_length (v:List Int) (p:Nat):(tickV v p).length=v.length:=by simp [tickV]
theorem upS_len (S:Nat→List (List Int)) (p:Nat) (v:List Int) (q:Nat):(upS S p v q).length=if q=p then (S p).length+1 else (S q).length:=by
 unfold upS;split <;> simp
theorem upS_le (S:Nat→List (List Int)) (p:Nat) (v:List Int) (q:Nat):(S q).length≤(upS S p v q).length:=by
 rw[upS_len];split
 ·rename_i h;subst h;omega
 ·omega
theorem upS_old {S:Nat→List (List Int)} {p:Nat} {v:List Int} {q k:Nat} (h:k<(S q).length):stOf (upS S p v) q k=stOf S q k:=by
 unfold stOf upS
 split
 ·rename_i e;subst e;rw[List.getD_eq_getElem?_getD,List.getElem?_append_left h,← List.getD_eq_getElem?_getD]
 ·rfl
theorem upS_new {S:Nat→List (List Int)} {p:Nat} {v:List Int} : stOf (upS S p v) p (S p).length=v:=by
 unfold stOf upS
 rw[if_pos rfl,List.getD_eq_getElem?_getD,List.getElem?_append_right (Nat.le_refl _)]
 simp
theorem vecV_congr {ps:List Pr} {S S':Nat→List (List Int)} {p k:Nat} (h1:k ≠ 0→stOf S' p (k - 1)=stOf S p (k - 1))
  (h2:(evq ps p k).kind=3→stOf S' (sndr ps (evq ps p k).msg).1.toNat ((sndr ps (evq ps p k).msg).2 - 1).toNat=stOf S (sndr ps (evq ps p k).msg).1.toNat ((sndr ps (evq ps p k).msg).2 - 1).toNat):vecV ps S' p k=vecV ps S p k:=by
 have e1:preV ps S' p k=preV ps S p k:=by
  unfold preV
  by_cases h:k=0
  ·rw[if_pos h,if_pos h]
  ·rw[if_neg h,if_neg h,h1 h]
 unfold vecV rawV
 rw[e1]
 by_cases h:(evq ps p k).kind=3
 ·rw[if_pos h,if_pos h,h2 h]
 ·rw[if_neg h,if_neg h]
theorem Gen.eqn {ps:List Pr} {S:Nat→List (List Int)} (h:Gen ps S):∀p k,k<(S p).length→p<ps.length∧k<nev ps p∧stOf S p k=vecV ps S p k ∧
  ((evq ps p k).kind=3→0<(sndr ps (evq ps p k).msg).2∧(sndr ps (evq ps p k).msg).2≤(S (sndr ps (evq ps p k).msg).1.toNat).length):=by
 induction h with
 | init=>intro p k h;simp at h
 | @step S r h hr ih =>
  intro p k hk
  have hle:=fun q=>upS_le S r (vecV ps S r (S r).length) q
  by_cases hold:k<(S p).length
  ·obtain⟨h1,h2,h3,h4⟩:=ih p k hold
   refine⟨h1,h2,?_,fun h=>⟨(h4 h).1,by have:=(h4 h).2;have:=hle (sndr ps (evq ps p k).msg).1.toNat;omega⟩⟩
   rw[upS_old hold,h3]
   refine(vecV_congr (fun h0=>upS_old (by omega)) fun h=>upS_old ?_).symm
   have:=h4 h;omega
  ·rw[upS_len] at hk
   by_cases e:p=r
   ·subst e
    rw[if_pos rfl] at hk
    have ek:k=(S p).length:=by omega
    subst ek
    obtain⟨h1,h2,h3⟩:=hr
    simp only[lenS] at h2 h3
    refine⟨h1,h2,?_,fun h=>⟨(h3 h).1,by have:=(h3 h).2;have:=hle (sndr ps (evq ps p (S p).length).msg).1.toNat;omega⟩⟩
    rw[upS_new]
    refine(vecV_congr (fun h0=>upS_old (by omega)) fun h=>upS_old ?_).symm
    have:=h3 h;omega
   ·rw[if_neg e] at hk;exact absurd hk hold
theorem Gen.le {ps:List Pr} {S S':Nat→List (List Int)} (h:Gen ps S) (h':Gen ps S') (hm:∀p,¬Rdy ps (lenS S') p):∀p,(S p).length≤(S' p).length∧∀k,k<(S p).length→stOf S p k=stOf S' p k:=by
 induction h with
 | init=>intro p;exact⟨Nat.zero_le _,fun k hk=>by simp at hk⟩
 | @step S r h hr ih =>
  have hlt:(S r).length<(S' r).length:=by
   refine Nat.lt_of_le_of_ne (ih r).1 fun e=>hm r ?_
   exact hr.mono (fun q=>(ih q).1) e.symm
  intro p
  rw[upS_len]
  by_cases e:p=r
  ·subst e
   rw[if_pos rfl]
   refine⟨hlt,fun k hk => ?_⟩
   by_cases hold:k<(S p).length
   ·rw[upS_old hold];exact(ih p).2 k hold
   ·have ek:k=(S p).length:=by omega
    subst ek
    rw[upS_new,(h'.eqn p _ hlt).2.2.1]
    refine vecV_congr (fun h0=>(ih p).2 _ (by omega)) fun hk=>(ih _).2 _ ?_
    have:=hr.2.2 hk
    simp only[lenS] at this
    omega
  ·rw[if_neg e]
   refine⟨(ih p).1,fun k hk => ?_⟩
   rw[upS_old hk];exact(ih p).2 k hk
open Classical in
noncomputable def stampF (ps:List Pr):Nat→List (List Int):=if h:∃S,Gen ps S∧∀p,¬Rdy ps (lenS S) p then Classical.choose h else fun _=>[]
theorem zeros_getD (n j:Nat):(List.replicate n (0:Int)).getD j 0=0:=by
 rw[List.getD_eq_getElem?_getD,List.getElem?_replicate]
 split <;> rfl
theorem tickV_getD (v:List Int) (p j:Nat):(tickV v p).getD j 0=if p=j∧p<v.length then v.getD p 0+1 else v.getD j 0:=getD_set0 v p j _
theorem vecV_bound {ps:List Pr} {S:Nat→List (List Int)} {p k:Nat} {B:Nat→Int} (hB:∀j,0≤B j) (h1:k ≠ 0→(stOf S p (k - 1)).length=ps.length∧∀j,0≤(stOf S p (k - 1)).getD j 0∧(stOf S p (k - 1)).getD j 0≤B j)
  (h2:(evq ps p k).kind=3→(stOf S (sndr ps (evq ps p k).msg).1.toNat ((sndr ps (evq ps p k).msg).2 - 1).toNat).length=ps.length ∧
   ∀j,0≤(stOf S (sndr ps (evq ps p k).msg).1.toNat ((sndr ps (evq ps p k).msg).2 - 1).toNat).getD j 0∧(stOf S (sndr ps (evq ps p k).msg).1.toNat ((sndr ps (evq ps p k).msg).2 - 1).toNat).getD j 0≤B j) :
  (rawV ps S p k).length=ps.length∧(∀j,0≤(rawV ps S p k).getD j 0∧(rawV ps S p k).getD j 0≤B j)∧(vecV ps S p k).length=ps.length∧∀j,0≤(vecV ps S p k).getD j 0∧(vecV ps S p k).getD j 0≤B j+(if p=j then 1 else 0):=by
 have hpre:(preV ps S p k).length=ps.length∧∀j,0≤(preV ps S p k).getD j 0∧(preV ps S p k).getD j 0≤B j:=by
  unfold preV
  by_cases h:k=0
  ·rw[if_pos h];exact⟨by simp,fun j=>by rw[zeros_getD];exact⟨Int.le_refl _,hB j⟩⟩
  ·rw[if_neg h];exact h1 h
 have hraw:(rawV ps S p k).length=ps.length∧∀j,0≤(rawV ps S p k).getD j 0∧(rawV ps S p k).getD j 0≤B j:=by
  unfold rawV
  by_cases h:(evq ps p k).kind=3
  ·rw[if_pos h]
   obtain⟨g1,g2⟩:=h2 h
   have hl:(preV ps S p k).length=(stOf S (sndr ps (evq ps p k).msg).1.toNat ((sndr ps (evq ps p k).msg).2 - 1).toNat).length:=by rw[hpre.1,g1]
   refine⟨(joinV_length hl).trans hpre.1,fun j => ?_⟩
   rw[joinV_getD hl]
   have a:=hpre.2 j
   have b:=g2 j
   omega
  ·rw[if_neg h];exact hpre
 refine⟨hraw.1,hraw.2,(tickV_length _ _).trans hraw.1,fun j => ?_⟩
 unfold vecV
 rw[tickV_getD]
 have a:=hraw.2 j
 by_cases h:p=j
 ·subst h
  rw[if_pos rfl]
  split <;> omega
 ·rw[if_neg h,if_neg fun h'=>h h'.1];omega
theorem Gen.bound {ps:List Pr} {S:Nat→List (List Int)} (h:Gen ps S):∀p k,k<(S p).length→(stOf S p k).length=ps.length∧∀j,0≤(stOf S p k).getD j 0∧(stOf S p k).getD j 0≤(S j).length:=by
 induction h with
 | init=>intro p k h;simp at h
 | @step S r h hr ih =>
  intro p k hk
  by_cases hold:k<(S p).length
  ·rw[upS_old hold]
   obtain⟨h1,h2⟩:=ih p k hold
   refine⟨h1,fun j => ?_⟩
   have:=upS_le S r (vecV ps S r (S r).length) j
   have:=h2 j
   omega
  ·rw[upS_len] at hk
   by_cases e:p=r
   ·subst e
    rw[if_pos rfl] at hk
    have ek:k=(S p).length:=by omega
    subst ek
    rw[upS_new]
    have hb:=vecV_bound (ps:=ps) (S:=S) (p:=p) (k:=(S p).length) (B:=fun j=>((S j).length:Int)) (fun j=>by simp) (fun h0=>ih p _ (by omega)) (fun h3=>by
     have:=hr.2.2 h3
     simp only[lenS] at this
     exact ih _ _ (by omega))
    refine⟨hb.2.2.1,fun j => ?_⟩
    have:=hb.2.2.2 j
    rw[upS_len]
    by_cases e:j=p
    ·subst e;rw[if_pos rfl] at this;rw[if_pos rfl];omega
    ·rw[if_neg (Ne.symm e)] at this;rw[if_neg e];omega
   ·rw[if_neg e] at hk;exact absurd hk hold
theorem Gen.next {ps:List Pr} {S:Nat→List (List Int)} (h:Gen ps S) {p:Nat} (hr:Rdy ps (lenS S) p):(rawV ps S p (S p).length).length=ps.length∧∀j,0≤(rawV ps S p (S p).length).getD j 0∧(rawV ps S p (S p).length).getD j 0≤(S j).length:=by
 have hb:=vecV_bound (ps:=ps) (S:=S) (p:=p) (k:=(S p).length) (B:=fun j=>((S j).length:Int)) (fun j=>by simp) (fun h0=>h.bound p _ (by omega)) (fun h3=>by
  have:=hr.2.2 h3
  simp only[lenS] at this
  exact h.bound _ _ (by omega))
 exact⟨hb.1,hb.2.1⟩
def doneF (order:List Int) (k:Nat):Nat→Nat:=fun q=>(order.take k).count (q:Int)
def RunOk (ps:List Pr) (order:List Int) (k:Nat):Prop:=∀j,j<k→0≤order.getD j 0∧Rdy ps (doneF order j) (order.getD j 0).toNat
end Go.AL
end
section
namespace Go.AL
open Go Go.RowKit
set_option maxRecDepth 4000
theorem valid_parts {ps:List Pr} (h:validF ps=true):procFirst ps=none∧evFirst ps=none∧msgF ps=none:=by
 have hp:∀x,procFirst ps=some x→x.2 ≠ 0:=fun x hx=>by
  unfold procFirst at hx
  rw[Option.map_eq_some_iff] at hx
  obtain⟨k,hk,rfl⟩:=hx
  simpa using List.find?_some hk
 have he:∀x,evFirst ps=some x→x.2 ≠ 0:=fun x hx=>by
  unfold evFirst at hx
  rw[Option.map_eq_some_iff] at hx
  obtain⟨k,hk,rfl⟩:=hx
  simpa using List.find?_some hk
 have hmm:∀x,msgF ps=some x→x.2 ≠ 0:=fun x hx=>by
  unfold msgF at hx
  split at hx
  ·rename_i k hk
   cases hx
   simpa using List.find?_some hk
  ·cases hx
 unfold validF faultF at h
 simp only[decide_eq_true_eq] at h
 split at h
 ·simp at h
 ·cases hpf:procFirst ps with
  | some x=>rw[hpf] at h;exact absurd h (hp x hpf)
  | none =>
   rw[hpf] at h
   cases hef:evFirst ps with
   | some x=>rw[hef] at h;exact absurd h (he x hef)
   | none =>
    rw[hef] at h
    cases hmf:msgF ps with
    | some x=>rw[hmf] at h;exact absurd h (hmm x hmf)
    | none=>exact⟨rfl,rfl,rfl⟩
theorem sndr_some {ps:List Pr} {m:Int} (h:0<(sndr ps m).2):∃(p:Nat) (hp:p<ps.length) (i:Nat) (hi:i<ps[p].evs.length),sndr ps m=((p:Int),(i:Int)+1)∧ps[p].evs[i].kind=2∧ps[p].evs[i].msg=m:=by
 obtain⟨e,he,h1,h2⟩:=findIn_mem h
 obtain⟨k,hk⟩:=List.getElem?_of_mem he
 obtain⟨p,hp,i,hi,_,e2⟩:=evIds_inv hk
 have e3:=congrArg Prod.fst e2
 have e4:=congrArg Prod.snd e2
 dsimp only at e3 e4
 subst e4
 exact⟨p,hp,i,hi,e3,h1,h2⟩
def totS (n:Nat) (c:Nat→Nat):Nat:=((List.range n).map c).sum
theorem totS_succ (n:Nat) (c:Nat→Nat):totS (n+1) c=totS n c+c n:=by simp [totS,List.range_succ]
theorem sum_nonneg:∀(Z:List Int),(∀z ∈ Z,0≤z)→0≤Z.sum
 | [],_=>by simp
 | z :: Z,h=>by
  have h1:=h z (by simp)
  have h2:=sum_nonneg Z fun z hz=>h z (List.mem_cons_of_mem _ hz)
  simp only[List.sum_cons];omega
noncomputable def knownF (ps:List Pr) (order:List Int) (k:Nat):List (List Int) :=
 (List.range ps.length).map fun q=>if doneF order k q=0 then List.replicate ps.length 0 else stOf (stampF ps) q (doneF order k q - 1)
noncomputable def peakF (ps:List Pr) (order:List Int):Nat→Int
 | 0=>0
 | k+1=>max (peakF ps order k) (keptF (knownF ps order (k+1)))
theorem RunOk.le {ps:List Pr} {order:List Int} {k j:Nat} (h:RunOk ps order k) (hj:j≤k):RunOk ps order j:=fun i hi=>h i (by omega)
theorem pair_unique {ps:List Pr} (hm:msgF ps=none) {p:Nat} (hp:p<ps.length) {i:Nat} (hi:i<ps[p].evs.length) (hk:ps[p].evs[i].kind=2∨ps[p].evs[i].kind=3) :
  findIn (evIds ps) ps[p].evs[i].kind ps[p].evs[i].msg=((p:Int),(i:Int)+1):=by
 have hev:=evIds_get hp hi
 have hlt:off ps p+i<(evIds ps).length:=(List.getElem?_eq_some_iff.1 hev).1
 have hpz:pairF ps (off ps p+i)=0:=by
  unfold msgF at hm
  split at hm
  ·cases hm
  ·rename_i hn
   rw[List.find?_eq_none] at hn
   simpa using hn _ (List.mem_range.2 hlt)
 unfold pairF at hpz
 rw[hev] at hpz
 simp only at hpz
 have hno:¬0<(findIn ((evIds ps).take (off ps p+i)) ps[p].evs[i].kind ps[p].evs[i].msg).2:=by
  intro h0
  rcases hk with hk|hk
  ·rw[if_pos hk] at hpz;rw[hk] at h0;rw[if_pos h0] at hpz;cases hpz
  ·rw[if_neg (by omega),if_pos hk] at hpz;rw[hk] at h0;rw[if_pos h0] at hpz;cases hpz
 refine findIn_hit hev (fun j y hj hy hc=>hno ?_) ⟨rfl,rfl⟩
 have hmem:y ∈ (evIds ps).take (off ps p+i):=by
  refine List.mem_of_getElem? (i:=j) ?_
  rw[List.getElem?_take,if_pos hj];exact hy
 unfold findIn
 cases hf:((evIds ps).take (off ps p+i)).find? (fun x=>decide (x.2.kind=ps[p].evs[i].kind) && decide (x.2.msg=ps[p].evs[i].msg)) with
 | some x=>exact evIds_pos ps x (List.mem_of_mem_take (List.mem_of_find?_eq_some hf))
 | none =>
  rw[List.find?_eq_none] at hf
  have:=hf y hmem
  simp [hc.1,hc.2] at this
theorem findIn_some {ps:List Pr} {kind m:Int} (h:0<(findIn (evIds ps) kind m).2):∃(p:Nat) (hp:p<ps.length) (i:Nat) (hi:i<ps[p].evs.length),findIn (evIds ps) kind m=((p:Int),(i:Int)+1)∧ps[p].evs[i].kind=kind∧ps[p].evs[i].msg=m:=by
 obtain⟨e,he,h1,h2⟩:=findIn_mem h
 obtain⟨k,hk⟩:=List.getElem?_of_mem he
 obtain⟨p,hp,i,hi,_,e2⟩:=evIds_inv hk
 have e3:=congrArg Prod.fst e2
 have e4:=congrArg Prod.snd e2
 dsimp only at e3 e4
 subst e4
 exact⟨p,hp,i,hi,e3,h1,h2⟩
theorem recv_sndr {ps:List Pr} (hm:msgF ps=none) {p:Nat} (hp:p<ps.length) {i:Nat} (hi:i<ps[p].evs.length) (hk:ps[p].evs[i].kind=3):0<(sndr ps ps[p].evs[i].msg).2:=by
 have hev:=evIds_get hp hi
 have hlt:off ps p+i<(evIds ps).length:=(List.getElem?_eq_some_iff.1 hev).1
 have hpz:pairF ps (off ps p+i)=0:=by
  unfold msgF at hm
  split at hm
  ·cases hm
  ·rename_i hn
   rw[List.find?_eq_none] at hn
   simpa using hn _ (List.mem_range.2 hlt)
 unfold pairF at hpz
 rw[hev] at hpz
 simp only at hpz
 rw[if_neg (by omega),if_pos hk] at hpz
 split at hpz
 ·cases hpz
 ·split at hpz
  ·cases hpz
  ·rename_i hs
   have hs':sendsB ps ps[p].evs[i].peer ps[p].evs[i].msg p=true:=by simpa using hs
   unfold sendsB at hs'
   split at hs'
   ·rename_i x hx
    obtain⟨q,hq,rfl⟩:∃q,∃hq:q<ps.length,ps[q]=x:=⟨_,(List.getElem?_eq_some_iff.1 hx).1,(List.getElem?_eq_some_iff.1 hx).2⟩
    obtain⟨e,he,h⟩:=List.any_eq_true.1 hs'
    simp only[Bool.and_eq_true,decide_eq_true_eq] at h
    obtain⟨j,hj,rfl⟩:=List.getElem_of_mem he
    have hu:=pair_unique hm hq hj (.inl h.1.1)
    unfold sndr
    rw[← h.1.2,← h.1.1,hu]
    show (0:Int)<(j:Int)+1
    omega
   ·cases hs'
def dirL (ps:List Pr) (p i:Nat):List Eid:=(if 0<i then [((p:Int),(i:Int))] else []) ++ (if (evq ps p i).kind=3 then [sndr ps (evq ps p i).msg] else [])
theorem dirL_iff {ps:List Pr} (hm:msgF ps=none) {p:Nat} (hp:p<ps.length) {i:Nat} (hi:i<ps[p].evs.length) (z:Eid):z ∈ dirL ps p i↔VEv ps z∧Nx ps z ((p:Int),(i:Int)+1):=by
 unfold dirL
 rw[evq_get hp hi,List.mem_append]
 constructor
 ·rintro(h|h)
  ·split at h
   ·rename_i h0
    simp only[List.mem_singleton] at h
    subst h
    refine⟨⟨p,hp,i - 1,by omega,by rw[show ((i - 1:Nat):Int)+1=i by omega]⟩,?_⟩
    unfold Nx afterL
    simp only[Int.toNat_natCast,List.getElem?_eq_getElem hp,show ((i:Int) - 1).toNat=i - 1 by omega,List.getElem?_eq_getElem (show i - 1<ps[p].evs.length by omega),List.mem_append]
    refine .inl ?_
    rw[if_pos (by omega)];simp
   ·cases h
  ·split at h
   ·rename_i hk
    simp only[List.mem_singleton] at h
    have h0:=recv_sndr hm hp hi hk
    obtain⟨q,hq,j,hj,e,k1,k2⟩:=sndr_some h0
    rw[h,e]
    refine⟨⟨q,hq,j,hj,rfl⟩,?_⟩
    unfold Nx afterL
    simp only[Int.toNat_natCast,List.getElem?_eq_getElem hq,show ((j:Int)+1 - 1).toNat=j by omega,List.getElem?_eq_getElem hj,List.mem_append]
    refine .inr ?_
    have hu:=pair_unique hm hp hi (.inr hk)
    rw[hk] at hu
    rw[k2,hu,if_pos ⟨k1,by show (0:Int)<(i:Int)+1;omega⟩];simp
   ·cases h
 ·rintro⟨⟨q,hq,j,hj,rfl⟩,h⟩
  unfold Nx afterL at h
  simp only[Int.toNat_natCast,List.getElem?_eq_getElem hq,show ((j:Int)+1 - 1).toNat=j by omega,List.getElem?_eq_getElem hj,List.mem_append] at h
  rcases h with h|h
  ·split at h
   ·simp only[List.mem_singleton,Prod.mk.injEq] at h
    have e1:p=q:=by omega
    have e2:i=j+1:=by omega
    subst e1;subst e2
    refine .inl ?_
    rw[if_pos (by omega)];simp
   ·cases h
  ·split at h
   ·rename_i hc
    simp only[List.mem_singleton] at h
    obtain⟨p',hp',i',hi',e,k1,k2⟩:=findIn_some hc.2
    rw[e,Prod.mk.injEq] at h
    have e1:p=p':=by omega
    have e2:i=i':=by omega
    subst e1;subst e2
    refine .inr ?_
    rw[if_pos k1,k2]
    have hu:=pair_unique hm hq hj (.inl hc.1)
    rw[hc.1] at hu
    unfold sndr
    rw[hu];simp
   ·cases h
theorem Reach.rank {ps:List Pr} {f:Eid→Int} (h:∀x,VEv ps x→∀y ∈ afterL ps x,f x<f y) {x y:Eid} (hr:Reach ps x y) (hx:VEv ps x):f x<f y:=by
 have key:f x<f y∧VEv ps y:=by
  induction hr with
  | single hn=>exact⟨h _ hx _ hn,Reach.valid (.single hn) hx⟩
  | tail hr hn ih=>exact⟨Int.lt_trans ih.1 (h _ ih.2 _ hn),Reach.valid (.single hn) ih.2⟩
 exact key.1
theorem cycF_rank {ps:List Pr} (f:Eid→Int) (h:∀x ∈ evIds ps,∀y ∈ afterL ps x.1,f x.1<f y):cycF ps=none:=by
 have hv:∀x,VEv ps x→∀y ∈ afterL ps x,f x<f y:=by
  rintro x ⟨p,hp,i,hi,rfl⟩ y hy
  exact h _ (List.mem_of_getElem? (evIds_get hp hi)) y hy
 refine cycF_none fun j y hj hr => ?_
 obtain⟨p,hp,i,hi,_,rfl⟩:=evIds_inv hj
 exact Int.lt_irrefl _ (hr.rank hv ⟨p,hp,i,hi,rfl⟩)
theorem sum_set:∀(v:List Int) (p:Nat) (x:Int),p<v.length→(v.set p x).sum=v.sum - v.getD p 0+x
 | [],p,x,h=>by simp at h
 | a :: v,0,x,_=>by simp only[List.set_cons_zero,List.sum_cons,List.getD_cons_zero];omega
 | a :: v,p+1,x,h=>by
  have ih:=sum_set v p x (by simpa using h)
  simp only[List.set_cons_succ,List.sum_cons,List.getD_cons_succ,ih];omega
def intV (x:Int):Value:=Value.int .i64 x
theorem mfind_iset (y:Int) (s:List Int):(mfind (intV y) (s.map intV)).isSome=decide (y ∈ s)∧∀i,mfind (intV y) (s.map intV)=some i→i<s.length:=by
 induction s with
 | nil=>exact⟨by simp [mfind],fun i h=>by simp [mfind] at h⟩
 | cons x s ih =>
  have hk:keyB (intV y) (intV x)=decide (y=x):=rfl
  simp only[List.map_cons,mfind,hk,decide_eq_true_eq]
  by_cases h:y=x
  ·rw[if_pos h];exact⟨by simp [h],fun i hi=>by cases hi;simp⟩
  ·rw[if_neg h]
   cases hf:mfind (intV y) (s.map intV) with
   | none=>rw[hf] at ih;exact⟨by simp [h];simpa using ih.1,fun i hi=>by cases hi⟩
   | some k=>rw[hf] at ih;exact⟨by simp [h];simpa using ih.1,fun i hi=>by cases hi;simpa using ih.2 k rfl⟩
theorem fits_int (y:Int):(KK.sc .int).fits (intV y)=true:=by simp [KK.fits,intV,SK.vfits]
theorem fits_iset (s:List Int):((s.map intV).all (KK.sc .int).fits)=true:=by
 simp only[List.all_map,List.all_eq_true];intro x _;exact fits_int x
theorem valuesAt_get {ps:List Pr} {c:List Int} {k:Nat} (hk:k<ps.length) (hkc:k<c.length):(valuesAt ps c)[k]'(by unfold valuesAt;rw[List.length_map,List.length_zip];omega)=stateAt ps[k] c[k].toNat:=by
 unfold valuesAt;simp
theorem asgF_of_valid {ps:List Pr} (h:validF ps=true) (p:Nat) (hp:p<ps.length) (i:Nat) (hi:i<ps[p].evs.length) (k:Nat) (hk:k<ps[p].evs[i].asg.length):asgF ps[p].vars.length ps[p].evs[i].asg k=0:=by
 have hef:evFirst ps=none:=by
  unfold validF faultF at h
  simp only[decide_eq_true_eq] at h
  split at h
  ·simp at h
  ·cases h1:procFirst ps with
   | some x =>
    rw[h1] at h
    unfold procFirst at h1
    rw[Option.map_eq_some_iff] at h1
    obtain⟨q,hq,rfl⟩:=h1
    have:=List.find?_some hq
    simp at this
    exact absurd h this
   | none =>
    rw[h1] at h
    cases h2:evFirst ps with
    | none=>rfl
    | some x =>
     rw[h2] at h
     unfold evFirst at h2
     rw[Option.map_eq_some_iff] at h2
     obtain⟨q,hq,rfl⟩:=h2
     have:=List.find?_some hq
     simp at this
     exact absurd h this
 have h0:=evFirst_get hef hp hi
 unfold evF at h0
 simp only[List.getElem?_eq_getElem hp,List.getElem?_eq_getElem hi] at h0
 split at h0
 ·cases h0
 ·split at h0
  ·cases h0
  ·split at h0
   ·cases h0
   ·by_cases hz:∀j,j<ps[p].evs[i].asg.length→asgF ps[p].vars.length ps[p].evs[i].asg j=0
    ·exact hz k hk
    ·exfalso
     apply hz
     intro j hj
     induction j using Nat.strongRecOn with
     | _ j ih =>
      by_cases hj0:asgF ps[p].vars.length ps[p].evs[i].asg j=0
      ·exact hj0
      ·rw[fstF_hit hj (fun m hm=>ih m hm (by omega)) hj0] at h0
       exact absurd h0 hj0
def AsgDis (x:Pr):Prop:=∀e ∈ x.evs,∀(i j:Nat) (hi:i<e.asg.length) (hj:j<e.asg.length),i<j→e.asg[i].1 ≠ e.asg[j].1
theorem dis_of_valid {ps:List Pr} (h:validF ps=true) (p:Nat) (hp:p<ps.length):AsgDis ps[p]:=by
 intro e he i j hi hj hij heq
 obtain⟨n,hn,rfl⟩:=List.getElem_of_mem he
 have h0:=asgF_of_valid h p hp n hn j hj
 unfold asgF at h0
 simp only[List.getElem?_eq_getElem hj] at h0
 split at h0
 ·cases h0
 ·split at h0
  ·cases h0
  ·rename_i hx
   apply hx
   rw[List.any_eq_true]
   refine⟨ps[p].evs[n].asg[i],?_,by simpa using heq⟩
   refine List.mem_of_getElem? (i:=i) ?_
   rw[List.getElem?_take,if_pos hij,List.getElem?_eq_getElem hi]
theorem assignL_none {v:Nat} : ∀(l:List (Int × Int)) (s:List Int),(∀a ∈ l,0≤a.1∧a.1 ≠ v)→(assignL s l)[v]?=s[v]?
 | [],s,_=>rfl
 | a :: r,s,h=>by
  have ih:=assignL_none r (s.set a.1.toNat a.2) fun b hb=>h b (List.mem_cons_of_mem _ hb)
  have:=h a List.mem_cons_self
  show (assignL (s.set a.1.toNat a.2) r)[v]?=s[v]?
  rw[ih,List.getElem?_set_ne (by omega)]
theorem assignL_hit {v:Nat} : ∀(l:List (Int × Int)) (s:List Int),v<s.length→(∀a ∈ l,0≤a.1)→(∀(i j:Nat) (hi:i<l.length) (hj:j<l.length),i<j→l[i].1 ≠ l[j].1) →
  ∀(j:Nat) (hj:j<l.length),l[j].1=v→(assignL s l)[v]?=some l[j].2
 | [],s,_,_,_,j,hj,_=>by simp at hj
 | a :: r,s,hv,h0,hd,j,hj,hjv=>by
  show (assignL (s.set a.1.toNat a.2) r)[v]?=_
  cases j with
  | zero =>
   simp only[List.getElem_cons_zero] at hjv ⊢
   rw[assignL_none r _ fun b hb=>⟨h0 b (List.mem_cons_of_mem _ hb),?_⟩]
   ·rw[show a.1.toNat=v by omega,List.getElem?_set_self hv]
   ·obtain⟨i,hi,rfl⟩:=List.getElem_of_mem hb
    have:=hd 0 (i+1) (by simp) (by simpa using hi) (by omega)
    simp only[List.getElem_cons_zero,List.getElem_cons_succ] at this
    omega
  | succ j =>
   simp only[List.getElem_cons_succ] at hjv ⊢
   refine assignL_hit r _ (by rw[List.length_set];exact hv) (fun b hb=>h0 b (List.mem_cons_of_mem _ hb)) (fun i k hi hk hik => ?_) j (by simpa using hj) hjv
   have:=hd (i+1) (k+1) (by simpa using hi) (by simpa using hk) (by omega)
   simpa using this
theorem recv_peer {ps:List Pr} (hm:msgF ps=none) {p:Nat} (hp:p<ps.length) {i:Nat} (hi:i<ps[p].evs.length) (hk:ps[p].evs[i].kind=3) :
  ∃(hq:ps[p].evs[i].peer.toNat<ps.length) (j:Nat) (hj:j<ps[ps[p].evs[i].peer.toNat].evs.length),sndr ps ps[p].evs[i].msg=((ps[p].evs[i].peer.toNat:Int),(j:Int)+1)∧ps[ps[p].evs[i].peer.toNat].evs[j].kind=2∧ps[ps[p].evs[i].peer.toNat].evs[j].msg=ps[p].evs[i].msg:=by
 have hev:=evIds_get hp hi
 have hlt:off ps p+i<(evIds ps).length:=(List.getElem?_eq_some_iff.1 hev).1
 have hpz:pairF ps (off ps p+i)=0:=by
  unfold msgF at hm
  split at hm
  ·cases hm
  ·rename_i hn
   rw[List.find?_eq_none] at hn
   simpa using hn _ (List.mem_range.2 hlt)
 unfold pairF at hpz
 rw[hev] at hpz
 simp only at hpz
 rw[if_neg (by omega),if_pos hk] at hpz
 split at hpz
 ·cases hpz
 ·split at hpz
  ·cases hpz
  ·rename_i hs
   have hs:sendsB ps ps[p].evs[i].peer ps[p].evs[i].msg (p:Int)=true:=by simpa using hs
   unfold sendsB at hs
   split at hs
   ·rename_i x hx
    obtain⟨hq,e⟩:=List.getElem?_eq_some_iff.1 hx
    subst e
    obtain⟨e,he,h1⟩:=List.any_eq_true.1 hs
    obtain⟨j,hj,rfl⟩:=List.getElem_of_mem he
    simp only[Bool.and_eq_true,decide_eq_true_iff] at h1
    refine⟨hq,j,hj,?_,h1.1.1,h1.1.2⟩
    have:=pair_unique hm hq hj (.inl h1.1.1)
    rw[h1.1.1,h1.1.2] at this
    exact this
   ·cases hs
end Go.AL
end
