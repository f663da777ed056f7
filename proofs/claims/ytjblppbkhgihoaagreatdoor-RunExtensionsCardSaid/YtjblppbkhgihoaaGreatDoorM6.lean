/- Texts of this claim's proof: WCy2, WFlt, WCut, WCut2, WVar, WKn, WKn2, WCx, AlFam, AlCutf, AlRed. No condition. -/
import Derived.Test.YtjblppbkhgihoaaGreatDoorM5
import Derived.Test.YtjblppbkhgihoaaGreatDoorM4
section
namespace Go.AL
open Go Go.RowKit
set_option maxRecDepth 4000
def VEv (ps:List Pr) (x:Eid):Prop:=∃(p:Nat) (hp:p<ps.length) (i:Nat) (_:i<ps[p].evs.length),x=((p:Int),(i:Int)+1)
def Nx (ps:List Pr) (x y:Eid):Prop:=y ∈ afterL ps x
def Reach (ps:List Pr):Eid→Eid→Prop:=Relation.TransGen (Nx ps)
theorem VEv.mem {ps:List Pr} {x:Eid} (h:VEv ps x):x ∈ (evIds ps).map (·.1):=by
 obtain⟨p,hp,i,hi,rfl⟩:=h
 exact List.mem_map.2 ⟨_,List.mem_of_getElem? (evIds_get hp hi),rfl⟩
theorem findIn_mem {l:List (Eid × Ev)} {kind m:Int} (h:0<(findIn l kind m).2):∃e,(findIn l kind m,e) ∈ l∧e.kind=kind∧e.msg=m:=by
 unfold findIn at *
 cases hf:l.find? (fun x=>decide (x.2.kind=kind) && decide (x.2.msg=m)) with
 | none=>rw[hf] at h;simp at h
 | some x =>
  have h1:=List.mem_of_find?_eq_some hf
  have h2:=List.find?_some hf
  simp only[Bool.and_eq_true,decide_eq_true_eq] at h2
  exact⟨x.2,h1,h2.1,h2.2⟩
theorem VEv.of_mem {ps:List Pr} {x:Eid × Ev} (h:x ∈ evIds ps):VEv ps x.1:=by
 obtain⟨k,hk⟩:=List.getElem?_of_mem h
 obtain⟨p,hp,i,hi,_,rfl⟩:=evIds_inv hk
 exact⟨p,hp,i,hi,rfl⟩
theorem Nx.valid {ps:List Pr} {x y:Eid} (h:Nx ps x y) (hx:VEv ps x):VEv ps y:=by
 obtain⟨p,hp,i,hi,rfl⟩:=hx
 unfold Nx afterL at h
 simp only[Int.toNat_natCast,List.getElem?_eq_getElem hp,show ((i:Int)+1 - 1).toNat=i by omega,List.getElem?_eq_getElem hi,List.mem_append] at h
 rcases h with h|h
 ·split at h
  ·simp only[List.mem_singleton] at h
   exact⟨p,hp,i+1,by omega,by rw[h];simp⟩
  ·cases h
 ·split at h
  ·rename_i hc
   simp only[List.mem_singleton] at h
   obtain⟨e,hm,_⟩:=findIn_mem hc.2
   rw[h];exact VEv.of_mem hm
  ·cases h
theorem Reach.valid {ps:List Pr} {x y:Eid} (h:Reach ps x y) (hx:VEv ps x):VEv ps y:=by
 induction h with
 | single h=>exact h.valid hx
 | tail _ h ih=>exact h.valid ih
open Classical in
noncomputable def cycF (ps:List Pr):Option Eid:=((evIds ps).find? fun x=>decide (Reach ps x.1 x.1)).map (·.1)
structure Dfs (ps:List Pr) (id:Eid) (x:Option Eid) (j:Nat) (rest seen:List Eid):Prop where
 reach:∀y ∈ seen,Reach ps id y
 sub:∀y ∈ rest,y=id∨y ∈ seen
 nid:id ∉ seen
 nodup:seen.Nodup
 closed:∀z,(z=id∨z ∈ seen)→z ∉ rest→x ≠ some z→∀y,Nx ps z y→y ∈ seen
 part:∀z,x=some z→(z=id∨z ∈ seen)∧∀i y,i<j→(afterL ps z)[i]?=some y→y ∈ seen
 size:rest.length+x.isSome.toNat≤seen.length+1
theorem Dfs.start (ps:List Pr) (id:Eid):Dfs ps id none 0 [id] [] :=
 ⟨by simp,by simp,by simp,.nil,fun z hz hn=>by simp at hz;subst hz;simp at hn,fun z h=>(by cases h),by simp⟩
theorem Dfs.pop {ps:List Pr} {id x:Eid} {rest seen:List Eid} (h:Dfs ps id none 0 (rest ++ [x]) seen):Dfs ps id (some x) 0 rest seen :=
 ⟨h.reach,fun y hy=>h.sub y (List.mem_append_left _ hy),h.nid,h.nodup,fun z hz hn hx=>h.closed z hz (by
   simp only[List.mem_append,List.mem_singleton,not_or]
   exact⟨hn,fun e=>hx (by rw[e])⟩) (by simp),fun z hz=>⟨by cases hz;exact h.sub x (by simp),fun i y hi=>by omega⟩,by have:=h.size;simp at this ⊢;omega⟩
theorem Dfs.skip {ps:List Pr} {id x y:Eid} {j:Nat} {rest seen:List Eid} (h:Dfs ps id (some x) j rest seen) (hy:(afterL ps x)[j]?=some y) (hs:y ∈ seen):Dfs ps id (some x) (j+1) rest seen :=
 ⟨h.reach,h.sub,h.nid,h.nodup,h.closed,fun z hz=>⟨(h.part z hz).1,fun i w hi hw=>by
  by_cases e:i=j
  ·subst e;cases hz;rw[hy] at hw;cases hw;exact hs
  ·exact(h.part z hz).2 i w (by omega) hw⟩,h.size⟩
theorem Dfs.push {ps:List Pr} {id x y:Eid} {j:Nat} {rest seen:List Eid} (h:Dfs ps id (some x) j rest seen) (hy:(afterL ps x)[j]?=some y) (hs:y ∉ seen) (hid:y ≠ id):Dfs ps id (some x) (j+1) (rest ++ [y]) (seen ++ [y]):=by
 have hnx:Nx ps x y:=List.mem_of_getElem? hy
 refine⟨fun z hz => ?_,fun z hz => ?_,?_,?_,fun z hz hn hx w hw => ?_,fun z hz => ?_,by have:=h.size;simp at this ⊢;omega⟩
 ·rcases List.mem_append.1 hz with hz|hz
  ·exact h.reach z hz
  ·simp only[List.mem_singleton] at hz;subst hz
   rcases (h.part x rfl).1 with e|hx
   ·subst e;exact .single hnx
   ·exact .tail (h.reach x hx) hnx
 ·rcases List.mem_append.1 hz with hz|hz
  ·rcases h.sub z hz with e|hz
   ·exact .inl e
   ·exact .inr (List.mem_append_left _ hz)
  ·exact .inr (List.mem_append_right _ hz)
 ·simp only[List.mem_append,List.mem_singleton,not_or];exact⟨h.nid,fun e=>hid e.symm⟩
 ·rw[List.nodup_append]
  exact⟨h.nodup,by simp,fun a ha b hb e=>by simp at hb;subst hb;subst e;exact hs ha⟩
 ·simp only[List.mem_append,List.mem_singleton,not_or] at hn
  refine List.mem_append_left _ (h.closed z ?_ hn.1 hx w hw)
  rcases hz with e|hz
  ·exact .inl e
  ·rcases List.mem_append.1 hz with hz|hz
   ·exact .inr hz
   ·simp only[List.mem_singleton] at hz;exact absurd hz hn.2
 ·refine⟨?_,fun i w hi hw => ?_⟩
  ·rcases (h.part z hz).1 with e|hz
   ·exact .inl e
   ·exact .inr (List.mem_append_left _ hz)
  ·by_cases e:i=j
   ·subst e;cases hz;rw[hy] at hw;cases hw;simp
   ·exact List.mem_append_left _ ((h.part z hz).2 i w (by omega) hw)
theorem Dfs.next {ps:List Pr} {id x:Eid} {rest seen:List Eid} (h:Dfs ps id (some x) (afterL ps x).length rest seen):Dfs ps id none 0 rest seen :=
 ⟨h.reach,h.sub,h.nid,h.nodup,fun z hz hn _ w hw=>by
  by_cases e:z=x
  ·subst e
   obtain⟨i,hi⟩:=List.getElem?_of_mem hw
   exact(h.part z rfl).2 i w (List.getElem?_eq_some_iff.1 hi).1 hi
  ·exact h.closed z hz hn (fun e'=>e (by cases e';rfl)) w hw,fun z hz=>(by cases hz),by have:=h.size;simp at this ⊢;omega⟩
theorem Dfs.found {ps:List Pr} {id x:Eid} {j:Nat} {rest seen:List Eid} (h:Dfs ps id (some x) j rest seen) (hy:(afterL ps x)[j]?=some id):Reach ps id id:=by
 have hnx:Nx ps x id:=List.mem_of_getElem? hy
 rcases (h.part x rfl).1 with e|hx
 ·subst e;exact .single hnx
 ·exact .tail (h.reach x hx) hnx
theorem Dfs.none {ps:List Pr} {id:Eid} {seen:List Eid} (h:Dfs ps id none 0 [] seen):¬Reach ps id id:=by
 have key:∀y,Reach ps id y→y ∈ seen:=fun y hy=>by
  induction hy with
  | single hn=>exact h.closed id (.inl rfl) (by simp) (by simp) _ hn
  | tail _ hn ih=>exact h.closed _ (.inr ih) (by simp) (by simp) _ hn
 exact fun hr=>h.nid (key id hr)
theorem Dfs.small {ps:List Pr} {id:Eid} {x:Option Eid} {j:Nat} {rest seen:List Eid} (h:Dfs ps id x j rest seen) (hv:VEv ps id):seen.length≤(evIds ps).length:=by
 have:=List.Nodup.length_le_of_subset h.nodup (l₂:=(evIds ps).map (·.1)) (fun y hy=>((h.reach y hy).valid hv).mem)
 simpa using this
theorem evIds_small {ps:List Pr} (hs:Sm ps):(evIds ps).length≤1000000000000:=by
 rw[evIds_length]
 have key:∀n,n≤ps.length→off ps n≤n * 1000000:=by
  intro n
  induction n with
  | zero=>intro _;simp [off]
  | succ n ih =>
   intro hn
   rw[off_succ (by omega)]
   have:=ih (by omega)
   have:=hs.evs _ (List.getElem_mem (show n<ps.length by omega))
   omega
 have:=key _ (Nat.le_refl _)
 have:=hs.procs
 omega
def eidV (x:Eid):Value:=.agg [Value.int .i64 x.1,Value.int .i64 x.2].toArray
def aSet (s:List Eid):ABlk:=.amap (s.map eidV) (s.map fun _=>ab true)
theorem keyB_eid (x y:Eid):keyB (eidV x) (eidV y)=decide (x=y):=by
 obtain⟨a,b⟩:=x
 obtain⟨c,d⟩:=y
 simp [keyB,eidV,veqs,veq]
theorem mfind_set (y:Eid) (s:List Eid):(mfind (eidV y) (s.map eidV)).isSome=decide (y ∈ s)∧∀i,mfind (eidV y) (s.map eidV)=some i→i<s.length:=by
 induction s with
 | nil=>exact⟨by simp [mfind],fun i h=>by simp [mfind] at h⟩
 | cons x s ih =>
  simp only[List.map_cons,mfind,keyB_eid,decide_eq_true_eq]
  by_cases h:y=x
  ·rw[if_pos h];exact⟨by simp [h],fun i hi=>by cases hi;simp⟩
  ·rw[if_neg h]
   cases hf:mfind (eidV y) (s.map eidV) with
   | none=>rw[hf] at ih;exact⟨by simp [h];simpa using ih.1,fun i hi=>by cases hi⟩
   | some k=>rw[hf] at ih;exact⟨by simp [h];simpa using ih.1,fun i hi=>by cases hi;simpa using ih.2 k rfl⟩
theorem mget_set (y:Eid) (s:List Eid):mget (eidV y) (s.map eidV) (s.map fun _=>ab true) (ab false)=ab (decide (y ∈ s)):=by
 obtain⟨h1,h2⟩:=mfind_set y s
 unfold mget
 cases hf:mfind (eidV y) (s.map eidV) with
 | none=>rw[hf] at h1;rw[← h1];rfl
 | some i =>
  rw[hf] at h1
  rw[← h1]
  show (List.map (fun _=>ab true) s).getD i .any=ab true
  rw[List.getD_eq_getElem?_getD]
  simp [h2 i hf]
theorem mput_set {y:Eid} {s:List Eid} (h:y ∉ s):mput (eidV y) (ab true) (s.map eidV) (s.map fun _=>ab true)=aSet (s ++ [y]):=by
 have h1:=(mfind_set y s).1
 unfold mput
 cases hf:mfind (eidV y) (s.map eidV) with
 | none=>simp [aSet]
 | some i=>rw[hf] at h1;simp [h] at h1
theorem fits_eid (y:Eid):(KK.st [.int,.int]).fits (eidV y)=true:=by simp [KK.fits,eidV,vfitss,SK.vfits]
theorem fits_set (s:List Eid):((s.map eidV).all (KK.st [.int,.int]).fits)=true:=by
 simp only[List.all_map,List.all_eq_true];intro x _;exact fits_eid x
theorem cycF_hit {ps:List Pr} {k:Nat} {x:Eid × Ev} (hx:(evIds ps)[k]?=some x) (h0:∀(j:Nat) (y:Eid × Ev),j<k→(evIds ps)[j]?=some y→¬Reach ps y.1 y.1) (h:Reach ps x.1 x.1):cycF ps=some x.1:=by
 unfold cycF
 obtain⟨hk,he⟩:=List.getElem?_eq_some_iff.1 hx
 have:(evIds ps).find? (fun x => @decide (Reach ps x.1 x.1) (Classical.propDecidable _))=some x:=by
  rw[List.find?_eq_some_iff_getElem]
  exact⟨by simpa using h,k,hk,he,fun j hj=>by simpa using h0 j _ hj (List.getElem?_eq_getElem (by omega))⟩
 rw[this];rfl
theorem cycF_none {ps:List Pr} (h:∀(j:Nat) (y:Eid × Ev),(evIds ps)[j]?=some y→¬Reach ps y.1 y.1):cycF ps=none:=by
 unfold cycF
 have:(evIds ps).find? (fun x => @decide (Reach ps x.1 x.1) (Classical.propDecidable _))=none:=by
  rw[List.find?_eq_none]
  intro y hy
  obtain⟨j,hj⟩:=List.getElem?_of_mem hy
  simpa using h j y hj
 rw[this];rfl
noncomputable def aCyc (ps:List Pr):AV:=match cycF ps with
 | some id => .tup [aEid id,ab true]
 | none => .tup [aEid (0,0),ab false]
def muCyc (N:Nat) (vs:List AV) (L:AHeap):Nat:=match vs,L with
 | .ls _ _ _ len _ :: _,_ :: (_,.amap ks _) :: _=>2 * (N - ks.length)+len
 | _,_=>0
theorem trace_cyclic (ps:List Pr) (hs:Sm ps) (hf:Formed ps):PC Proofs.Tryz.prog 65 [aTr ps,aLet ps] (aCyc ps):=by
 refine PC.enter 58 [.cell 4 54,.cell 5 4] [2,3,6,9,11,54] Proofs.Tryz.func65 rfl rfl rfl rfl rfl (by simp) (AWp.of ?_);simp only[go_sem]
 intro b4
 intro b5 h5
 refine Sd ?_
 refine AWp.of ?_;simp only[go_sem]
 refine Sd ?_
 refine(trace_events ps).val.use ?_;simp only[go_sem]
 refine AWp.block (AWp.rangeFunc rfl [2,3,4,5] (evArgs ps) (fun k L=>L=[(b5,.row 4 1 [ab false] 1),(b4,.row 54 2 [aEid (0,0)] 1)]∧∀(j:Nat) (y:Eid × Ev),j<k→(evIds ps)[j]?=some y→¬Reach ps y.1 y.1)
  (fun e L=>e = .ret∧∃id,cycF ps=some id∧L=[(b5,.row 4 1 [ab true] 1),(b4,.row 54 2 [aEid id] 1)])
  rfl (trace_events1 ps hs) (fun x hx=>by obtain⟨k,hk⟩:=List.getElem?_of_mem hx;obtain⟨_,_,_,_,_,_,rfl⟩:=evArgs_inv hk;rfl) ⟨by simp [aEid],by omega⟩ ?_ ?_ ?_)
 ·rintro k x L' l hx ⟨rfl,hI⟩
  obtain⟨p,hp,i,hi,hk,hev,rfl⟩:=evArgs_inv hx
  have hv:VEv ps ((p:Int),(i:Int)+1):=⟨p,hp,i,hi,rfl⟩
  generalize hid:(((p:Int),(i:Int)+1):Eid)=id at *
  have hid1:(p:Int)=id.1:=by rw[← hid]
  have hid2:(i:Int)+1=id.2:=by rw[← hid]
  simp only[go_sem]
  refine Sd ?_
  refine AWp.of ?_;simp only[go_sem]
  refine Sd ?_
  intros
  refine AWp.of ?_;simp only[go_sem]
  intro bm _ _
  refine Sd ?_
  refine AWp.of ?_;simp only[go_sem]
  intro bs _ _ _
  have n45:¬b4=b5:=by omega
  have nm5:¬bm=b5:=by omega
  have nm4:¬bm=b4:=by omega
  have nm5':¬b5=bm:=by omega
  have nm4':¬b4=bm:=by omega
  refine AWp.block (AWp.loop [8] [2,3,4,5,6,7] (fun vs L=>∃rest seen junk b cap,vs=[.ls b 2 0 rest.length cap]∧L=[(b,.row 54 2 ((rest ++ junk).map aEid) cap),(bm,aSet seen),(b5,.row 4 1 [ab false] 1),(b4,.row 54 2 [aEid (0,0)] 1)] ∧
   Dfs ps id none 0 rest seen∧rest.length≤cap∧b ≠ bm∧b ≠ b5∧b ≠ b4) (muCyc (evIds ps).length) ⟨[id],[],[],bs,1,rfl,rfl,Dfs.start ps id,by simp,by omega,by omega,by omega⟩ ?_)
  rintro vs L' - ⟨rest,seen,junk,b,cap,rfl,rfl,hd,hcap,n1,n2,n3⟩
  have n1':¬bm=b:=fun e=>n1 e.symm
  have n2':¬b5=b:=fun e=>n2 e.symm
  have n3':¬b4=b:=fun e=>n3 e.symm
  simp only[go_sem]
  refine Wk ?_
  refine⟨fun h1 => ?_,fun h1 => ?_⟩
  ·have hne:rest ≠ []:=by rintro rfl;simp at h1
   obtain⟨r,x,rfl⟩:∃r x,rest=r ++ [x]:=⟨rest.dropLast,rest.getLast hne,(List.dropLast_concat_getLast hne).symm⟩
   clear hne h1
   have hlen:(r ++ [x]).length=r.length+1:=by simp
   have hL:(r ++ [x]) ++ junk=r ++ (x :: junk):=by simp
   rw[hlen] at hcap
   simp only[hlen,hL]
   have e1:((r.length+1:Nat):Int) - 1=(r.length:Int):=by omega
   have e2:(List.map aEid (r ++ (x :: junk))).getD r.length .any=aEid x:=by simp [List.getD_eq_getElem?_getD]
   have hvx:VEv ps x:=by
    rcases hd.sub x (by simp) with e|hx
    ·rw[e];exact hv
    ·exact(hd.reach x hx).valid hv
   obtain⟨px,hpx,ix,hix,hxe⟩:=hvx
   have hdp:=hd.pop
   have hsm:=hdp.small hv
   have hsz:=hdp.size
   have hN:=evIds_small hs
   simp only[Option.isSome_some,Bool.toNat_true] at hsz
   have haf:=trace_after ps hs hf px hpx ix hix
   rw[← hxe] at haf
   have hal:(afterL ps x).length≤2:=by
    unfold afterL
    split
    ·split
     ·rw[List.length_append];split <;> split <;> simp
     ·simp
    ·simp
   refine Sd ?_
   refine AWp.of ?_;simp only[go_sem,e1,e2,n1',n2',n3']
   refine Sd ?_
   intros
   refine AWp.of ?_;simp only[go_sem,e1,e2,n1',n2',n3']
   refine Sd ?_
   refine AWp.of ?_;simp only[go_sem,e1,e2]
   refine Sd ?_
   refine(haf).val.use ?_;simp only[go_sem]
   refine AWp.range' (afterL ps x).length [8] [2,3,4,5,6,7,36,37] (fun j vs L=>∃rest seen' junk b cap,vs=[.ls b 2 0 rest.length cap]∧L=[(b,.row 54 2 ((rest ++ junk).map aEid) cap),(bm,aSet seen'),(b5,.row 4 1 [ab false] 1),(b4,.row 54 2 [aEid (0,0)] 1)] ∧
    Dfs ps id (some x) j rest seen'∧rest.length≤cap∧b ≠ bm∧b ≠ b5∧b ≠ b4∧2 * ((evIds ps).length - seen'.length)+rest.length≤2 * ((evIds ps).length - seen.length)+r.length) (by omega) rfl rfl rfl ⟨r,seen,x :: junk,b,cap,rfl,rfl,hdp,by omega,n1,n2,n3,Nat.le_refl _⟩ ?_ ?_
   ·rintro j vs L' hj - ⟨rest,seen',junk,b,cap,rfl,rfl,hd,hcap,n1,n2,n3,hmu⟩
    have n1':¬bm=b:=fun e=>n1 e.symm
    have n2':¬b5=b:=fun e=>n2 e.symm
    have n3':¬b4=b:=fun e=>n3 e.symm
    have hy:(afterL ps x)[j]?=some (afterL ps x)[j]:=List.getElem?_eq_getElem hj
    have hsm':=hd.small hv
    have hsz':=hd.size
    simp only[Option.isSome_some,Bool.toNat_true] at hsz'
    have hid3:∀y:Eid,(y.1=id.1∧y.2=id.2)=(y=id):=fun y=>by
     apply propext;constructor
     ·rintro⟨h1,h2⟩;exact Prod.ext h1 h2
     ·rintro rfl;exact⟨rfl,rfl⟩
    have hgd:(List.map aEid (afterL ps x)).getD j .any=aEid (afterL ps x)[j]:=getD_map hj
    have hkv:Value.agg [Value.int .i64 (afterL ps x)[j].1,Value.int .i64 (afterL ps x)[j].2].toArray=eidV (afterL ps x)[j]:=rfl
    generalize hyy:(afterL ps x)[j]=y at *
    have hg:=mget_set y seen'
    have hfk:=fits_eid y
    have hfs:=fits_set seen'
    simp only[go_sem]
    refine Sd ?_
    refine AWp.of ?_;simp only[go_sem,hgd]
    refine Sd ?_
    intros
    refine AWp.of ?_;simp only[go_sem]
    repeat(first|((with_reducible refine AWp.ofC ?_ ?_);exact rfl;simp only[go_sem,n1',n2',n3',n45,nm5,nm4,nm5',nm4'])|((with_reducible refine an ?_ ?_);exact Au))
    refine⟨fun h1 h2 => ?_,fun h1 => ?_⟩
    ·repeat(first|((with_reducible refine AWp.ofC ?_ ?_);exact rfl;simp only[go_sem,n1',n2',n3',n45,nm5,nm4,nm5',nm4'])|((with_reducible refine an ?_ ?_);exact Au))
     have hyi:y=id:=Prod.ext h1 h2
     rw[hyi] at hy
     refine⟨_,List.Sublist.cons _ (List.Sublist.cons _ (List.Sublist.refl _)),id,cycF_hit hev hI (hd.found hy),rfl⟩
    ·have hyn:y ≠ id:=by rintro rfl;exact h1 rfl rfl
     repeat(first|((with_reducible refine AWp.ofC ?_ ?_);exact rfl;simp only[go_sem,n1',n2',n3',n45,nm5,nm4,nm5',nm4',aSet,hkv,hfk,hfs,hg])|((with_reducible refine an ?_ ?_);exact Au))
     refine⟨fun h2 => ?_,fun h2 => ?_⟩
     ·have hp:=mput_set h2
      repeat(first|((with_reducible refine AWp.ofC ?_ ?_);exact rfl;simp only[go_sem,n1',n2',n3',n45,nm5,nm4,nm5',nm4',aSet,hkv,hfk,hfs,hg,hp])|((with_reducible refine an ?_ ?_);exact Au))
      refine Sd ?_
      intro b' cap' m1 m2 m3 m4
      refine⟨_,List.Sublist.refl _,rest ++ [y],seen' ++ [y],[],b',cap',?_,?_,hd.push hy h2 hyn,?_,fun e=>m1 e.symm,fun e=>m2 e.symm,fun e=>m3 e.symm,?_⟩
      ·simp
      ·simp [aEid]
      ·simpa using m4
      ·have:=(hd.push hy h2 hyn).small hv
       simp only[List.length_append,List.length_singleton] at this ⊢
       omega
     ·exact⟨_,List.Sublist.refl _,rest,seen',junk,b,cap,rfl,rfl,hd.skip hy h2,hcap,n1,n2,n3,hmu⟩
   ·rintro vs L' - ⟨rest,seen',junk,b,cap,rfl,rfl,hd,hcap,n1,n2,n3,hmu⟩
    simp only[go_sem]
    refine⟨_,List.Sublist.refl _,⟨rest,seen',junk,b,cap,rfl,rfl,hd.next,hcap,n1,n2,n3⟩,?_⟩
    simp only[muCyc,aSet,List.length_map]
    omega
  ·have hr:rest=[]:=by
    cases rest with
    | nil=>rfl
    | cons a r=>simp at h1
   subst hr
   refine⟨_,(List.Sublist.cons _ (List.Sublist.cons _ (List.Sublist.refl _))),rfl,fun j y hj hy => ?_⟩
   by_cases e:j=k
   ·subst e;rw[hev] at hy;cases hy;exact hd.none
   ·exact hI j y (by omega) hy
 ·rintro L' ⟨rfl,hI⟩
  have n45:¬b4=b5:=by omega
  simp only[go_sem]
  refine W1 n45 ?_
  have hm:aCyc ps = .tup [aEid (0,0),ab false]:=by
   unfold aCyc
   rw[cycF_none (fun j y hj=>hI j y (by unfold evArgs;rw[List.length_map];exact(List.getElem?_eq_some_iff.1 hj).1) hj)]
  rw[hm]
  refine ret_eq ?_
  simp only[go_sem,n45]
 ·rintro e L' ⟨he,id,hc,rfl⟩
  subst he
  show retK _ _ _ _ _
  have hm:aCyc ps = .tup [aEid id,ab true]:=by unfold aCyc;rw[hc]
  rw[hm]
  refine ret_eq ?_
  simp only[go_sem,show ¬b4=b5 by omega]
end Go.AL
end
section
namespace Go.AL
open Go Go.RowKit
set_option maxRecDepth 4000
def evAt (ps:List Pr) (x:Eid):Int:=evF ps x.1.toNat (x.2 - 1).toNat
def evFirst (ps:List Pr):Option (Eid × Int):=((evIds ps).find? (fun x=>evAt ps x.1 != 0)).map fun x=>(x.1,evAt ps x.1)
def procFirst (ps:List Pr):Option (Eid × Int):=((List.range ps.length).find? (fun p=>procF ps p != 0)).map fun (p:Nat)=>(((p:Int),0),procF ps p)
noncomputable def faultF (ps:List Pr):Eid × Int :=
 if !inI ps.length 1 8 then ((0,0),1) else
 match procFirst ps with
 | some x=>x
 | none=>match evFirst ps with
  | some x=>x
  | none=>match msgF ps with
   | some x=>x
   | none=>match cycF ps with
    | some id=>(id,10)
    | none=>((0,0),0)
theorem procFirst_hit {ps:List Pr} {k:Nat} (hk:k<ps.length) (h0:∀j,j<k→procF ps j=0) (h:procF ps k ≠ 0):procFirst ps=some (((k:Int),0),procF ps k):=by
 have:(List.range ps.length).find? (fun p=>procF ps p != 0)=some k:=by
  rw[List.find?_range_eq_some]
  exact⟨by simpa using h,by simpa using hk,fun j hj=>by simpa using h0 j hj⟩
 unfold procFirst;rw[this];rfl
theorem procFirst_none {ps:List Pr} (h:∀j,j<ps.length→procF ps j=0):procFirst ps=none:=by
 have:(List.range ps.length).find? (fun p=>procF ps p != 0)=none:=by
  rw[List.find?_eq_none];intro i hi;simpa using h i (List.mem_range.1 hi)
 unfold procFirst;rw[this];rfl
theorem evFirst_hit {ps:List Pr} {k:Nat} {x:Eid × Ev} (hx:(evIds ps)[k]?=some x) (h0:∀(j:Nat) (y:Eid × Ev),j<k→(evIds ps)[j]?=some y→evAt ps y.1=0) (h:evAt ps x.1 ≠ 0):evFirst ps=some (x.1,evAt ps x.1):=by
 obtain⟨hk,he⟩:=List.getElem?_eq_some_iff.1 hx
 have:(evIds ps).find? (fun x=>evAt ps x.1 != 0)=some x:=by
  rw[List.find?_eq_some_iff_getElem]
  exact⟨by simpa using h,k,hk,he,fun j hj=>by simpa using h0 j _ hj (List.getElem?_eq_getElem (by omega))⟩
 unfold evFirst;rw[this];rfl
theorem evFirst_none {ps:List Pr} (h:∀(j:Nat) (y:Eid × Ev),(evIds ps)[j]?=some y→evAt ps y.1=0):evFirst ps=none:=by
 have:(evIds ps).find? (fun x=>evAt ps x.1 != 0)=none:=by
  rw[List.find?_eq_none]
  intro y hy
  obtain⟨j,hj⟩:=List.getElem?_of_mem hy
  simpa using h j y hj
 unfold evFirst;rw[this];rfl
theorem evFirst_get {ps:List Pr} (h:evFirst ps=none) {p:Nat} (hp:p<ps.length) {i:Nat} (hi:i<ps[p].evs.length):evF ps p i=0:=by
 unfold evFirst at h
 rw[Option.map_eq_none_iff,List.find?_eq_none] at h
 have:=h _ (List.mem_of_getElem? (evIds_get hp hi))
 simpa [evAt,show ((i:Int)+1 - 1).toNat=i by omega] using this
theorem formed_of_evFirst {ps:List Pr} (h:evFirst ps=none):Formed ps:=by
 intro p hp e he
 obtain⟨i,hi,rfl⟩:=List.getElem_of_mem he
 have h0:=evFirst_get h hp hi
 unfold evF at h0
 simp only[List.getElem?_eq_getElem hp,List.getElem?_eq_getElem hi] at h0
 split at h0
 ·cases h0
 ·rename_i hn;simpa using hn
def aFault (x:Eid × Int):AV:=.tup [aEid x.1,ai x.2]
attribute [go_sem] aFault
theorem trace_Fault (ps:List Pr) (hs:Sm ps):PC Proofs.Tryz.prog 40 [aTr ps] (aFault (faultF ps)):=by
 have hl:=hs.procs
 refine PC.enter 66 [.cell 2 54,.cell 3 28] [1,6,7,10,12] Proofs.Tryz.func40 rfl rfl rfl rfl rfl (by simp) (AWp.of ?_);simp only[go_sem]
 intro b2
 intro b3 h3
 have n23:¬b2=b3:=by omega
 refine Sd ?_
 refine AWp.of ?_;simp only[go_sem,n23]
 refine Sd ?_
 refine(trace_in _ _ _).val.use ?_;simp only[go_sem]
 refine W1 n23 ?_
 refine⟨fun h1 => ?_,fun h1 => ?_⟩
 ·refine W1 n23 ?_
  have hf:faultF ps=((0,0),1):=by unfold faultF;rw[if_pos (by simp [h1])]
  rw[hf]
  refine ret_eq ?_
  simp only[go_sem,n23]
 ·refine Wk ?_
  refine AWp.range' ps.length [] [1,2,3,22] (fun k vs L=>L=[(b3,.row 28 1 [ai 0] 1),(b2,.row 54 2 [aEid (0,0)] 1)]∧∀j,j<k→procF ps j=0) (by omega) rfl rfl rfl ⟨rfl,by omega⟩ ?_ ?_
  ·rintro k vs L' hk - ⟨rfl,hI⟩
   simp only[go_sem]
   refine Sd ?_
   refine AWp.of ?_;simp only[go_sem]
   refine Wk ?_
   refine Sd ?_
   refine(trace_processFault ps hs k hk).val.use ?_;simp only[go_sem]
   refine W1 n23 ?_
   refine⟨fun h2 => ?_,fun h2 => ?_⟩
   ·refine W1 n23 ?_
    have hf:faultF ps=(((k:Int),0),procF ps k):=by unfold faultF;rw[if_neg (by simp [h1]),procFirst_hit hk hI h2]
    rw[hf]
    refine ret_eq ?_
    simp only[go_sem,n23]
   ·refine⟨_,List.Sublist.refl _,rfl,fun j hj => ?_⟩
    by_cases e:j=k
    ·rw[e];exact h2
    ·exact hI j (by omega)
  ·rintro vs L' - ⟨rfl,hI⟩
   have hpf:=procFirst_none hI
   simp only[go_sem]
   refine Sd ?_
   refine AWp.of ?_;simp only[go_sem]
   refine Sd ?_
   refine(trace_events ps).val.use ?_;simp only[go_sem]
   refine AWp.block (AWp.rangeFunc rfl [1,2,3] (evArgs ps) (fun k L=>L=[(b3,.row 28 1 [ai 0] 1),(b2,.row 54 2 [aEid (0,0)] 1)]∧∀(j:Nat) (y:Eid × Ev),j<k→(evIds ps)[j]?=some y→evAt ps y.1=0)
    (fun e L=>e = .ret∧∃id n,evFirst ps=some (id,n)∧L=[(b3,.row 28 1 [ai n] 1),(b2,.row 54 2 [aEid id] 1)])
    rfl (trace_events1 ps hs) (fun x hx=>by obtain⟨k,hk⟩:=List.getElem?_of_mem hx;obtain⟨_,_,_,_,_,_,rfl⟩:=evArgs_inv hk;rfl) ⟨by simp [aEid],by omega⟩ ?_ ?_ ?_)
   ·rintro k x L' l hx ⟨rfl,hI⟩
    obtain⟨p,hp,i,hi,hk,hev,rfl⟩:=evArgs_inv hx
    have hat:evAt ps ((p:Int),(i:Int)+1)=evF ps p i:=by simp only[evAt,Int.toNat_natCast,show ((i:Int)+1 - 1).toNat=i by omega]
    simp only[go_sem]
    refine Sd ?_
    refine AWp.of ?_;simp only[go_sem]
    refine Sd ?_
    intros
    refine AWp.of ?_;simp only[go_sem]
    refine Sd ?_
    intros
    refine AWp.of ?_;simp only[go_sem]
    refine Sd ?_
    refine(trace_eventFault ps hs p hp i hi).val.use ?_;simp only[go_sem]
    refine W1 n23 ?_
    refine⟨fun h2 => ?_,fun h2 => ?_⟩
    ·refine W1 n23 ?_
     rw[← hat] at h2
     exact⟨_,List.Sublist.refl _,_,_,evFirst_hit hev hI h2,by rw[hat]⟩
    ·refine⟨_,List.Sublist.refl _,rfl,fun j y hj hy => ?_⟩
     by_cases e:j=k
     ·subst e;rw[hev] at hy;cases hy;rw[hat];exact h2
     ·exact hI j y (by omega) hy
   ·rintro L' ⟨rfl,hI⟩
    have hef:=evFirst_none (ps:=ps) (fun j y hj=>hI j y (by unfold evArgs;rw[List.length_map];exact(List.getElem?_eq_some_iff.1 hj).1) hj)
    have hfm:=formed_of_evFirst hef
    simp only[go_sem]
    refine Sd ?_
    refine AWp.of ?_;simp only[go_sem]
    have hmf:=trace_messageFault ps hs hfm
    have hcf:=trace_cyclic ps hs hfm
    unfold aMsg at hmf
    cases hm:msgF ps with
    | some x =>
     obtain⟨id,n⟩:=x
     rw[hm] at hmf
     have hn:n ≠ 0:=by
      unfold msgF at hm
      split at hm
      ·rename_i k hk
       have:=List.find?_some hk
       cases hm
       simpa using this
      ·cases hm
     have hf:faultF ps=(id,n):=by unfold faultF;rw[if_neg (by simp [h1]),hpf,hef,hm]
     refine Sd ?_
     refine(hmf).val.use ?_;simp only[go_sem]
     refine Sd ?_
     intro b _ _
     refine W2 n23 hn ?_
     rw[hf]
     refine ret_eq ?_
     simp only[go_sem,n23]
    | none =>
     rw[hm] at hmf
     refine Sd ?_
     refine(hmf).val.use ?_;simp only[go_sem]
     refine Sd ?_
     intro b _ _
     refine Wk ?_
     unfold aCyc at hcf
     cases hc:cycF ps with
     | some id =>
      rw[hc] at hcf
      have hf:faultF ps=(id,10):=by unfold faultF;rw[if_neg (by simp [h1]),hpf,hef,hm,hc]
      refine Sd ?_
      refine(hcf).val.use ?_;simp only[go_sem]
      refine Sd ?_
      intro b _ _
      refine W1 n23 ?_
      rw[hf]
      refine ret_eq ?_
      simp only[go_sem,n23]
     | none =>
      rw[hc] at hcf
      have hf:faultF ps=((0,0),0):=by unfold faultF;rw[if_neg (by simp [h1]),hpf,hef,hm,hc]
      refine Sd ?_
      refine(hcf).val.use ?_;simp only[go_sem]
      refine Sd ?_
      intro b _ _
      refine W1 n23 ?_
      rw[hf]
      refine ret_eq ?_
      simp only[go_sem,n23]
   ·rintro e L' ⟨he,id,n,hc,rfl⟩
    subst he
    show retK _ _ _ _ _
    have hf:faultF ps=(id,n):=by unfold faultF;rw[if_neg (by simp [h1]),hpf,hc]
    rw[hf]
    refine ret_eq ?_
    simp only[go_sem,n23]
noncomputable def validF (ps:List Pr):Bool:=decide ((faultF ps).2=0)
theorem trace_Valid (ps:List Pr) (hs:Sm ps):PC Proofs.Tryz.prog 16 [aTr ps] (ab (validF ps)):=by
 refine PC.enter 12 [.tmp 2] [1,3] Proofs.Tryz.func16 rfl rfl rfl rfl rfl (by simp) (AWp.of ?_);simp only[go_sem]
 refine Wk ?_
 refine Sd ?_
 refine(trace_Fault ps hs).val.use ?_;simp only[go_sem]
 refine Sd ?_
 intros
 refine AWp.of ?_;simp only[go_sem]
 refine Wk ?_
 refine ret_eq ?_;simp only[go_sem]
 rfl
noncomputable def findV (ps:List Pr) (kind m:Int):Eid:=if validF ps then findIn (evIds ps) kind m else (0,0)
theorem findIn_none {l:List (Eid × Ev)} {kind m:Int} (h:∀x ∈ l,¬(x.2.kind=kind∧x.2.msg=m)):findIn l kind m=(0,0):=by
 unfold findIn
 have:l.find? (fun x=>decide (x.2.kind=kind) && decide (x.2.msg=m))=none:=by
  rw[List.find?_eq_none];intro x hx;simpa using h x hx
 rw[this]
theorem findIn_hit {l:List (Eid × Ev)} {kind m:Int} {k:Nat} {x:Eid × Ev} (hx:l[k]?=some x) (h0:∀(j:Nat) (y:Eid × Ev),j<k→l[j]?=some y→¬(y.2.kind=kind∧y.2.msg=m)) (h:x.2.kind=kind∧x.2.msg=m):findIn l kind m=x.1:=by
 unfold findIn
 obtain⟨hk,he⟩:=List.getElem?_eq_some_iff.1 hx
 have:l.find? (fun x=>decide (x.2.kind=kind) && decide (x.2.msg=m))=some x:=by
  rw[List.find?_eq_some_iff_getElem]
  exact⟨by simpa using h,k,hk,he,fun j hj=>by
   have:=h0 j _ hj (List.getElem?_eq_getElem (by omega))
   simp only[Bool.not_eq_true',Bool.and_eq_false_iff,decide_eq_false_iff_not]
   exact Classical.not_and_iff_not_or_not.1 this⟩
 rw[this]
theorem trace_find (ps:List Pr) (hs:Sm ps) (kind m:Int):PC Proofs.Tryz.prog 122 [aTr ps,ai kind,ai m] (.tup [aEid (findV ps kind m),ab (decide (0<(findV ps kind m).2))]):=by
 refine PC.enter 30 [.cell 6 54,.cell 7 4] [3,4,5,8,9] Proofs.Tryz.func122 rfl rfl rfl rfl rfl (by simp) (AWp.of ?_);simp only[go_sem]
 intro b6
 intro b7 h7
 have n67:¬b6=b7:=by omega
 have n76:¬b7=b6:=by omega
 refine Sd ?_
 refine AWp.of ?_;simp only[go_sem,n67,n76]
 refine Sd ?_
 refine(trace_Valid ps hs).val.use ?_;simp only[go_sem]
 refine W2 n67 n76 ?_
 refine⟨fun h1 => ?_,fun h1 => ?_⟩
 ·refine W2 n67 n76 ?_
  have hf:findV ps kind m=(0,0):=by unfold findV;rw[h1];rfl
  rw[hf]
  refine ret_eq ?_
  simp only[go_sem,n67,n76]
  rfl
 ·refine Wk ?_
  have hf:findV ps kind m=findIn (evIds ps) kind m:=by unfold findV;rw[h1];rfl
  refine Sd ?_
  refine(trace_events ps).val.use ?_;simp only[go_sem]
  refine AWp.block (AWp.rangeFunc rfl [4,5,6,7] (evArgs ps) (fun k L=>L=[(b7,.row 4 1 [ab false] 1),(b6,.row 54 2 [aEid (0,0)] 1)]∧∀(j:Nat) (y:Eid × Ev),j<k→(evIds ps)[j]?=some y→¬(y.2.kind=kind∧y.2.msg=m))
   (fun e L=>e = .ret∧0<(findIn (evIds ps) kind m).2∧L=[(b7,.row 4 1 [ab true] 1),(b6,.row 54 2 [aEid (findIn (evIds ps) kind m)] 1)])
   rfl (trace_events1 ps hs) (fun x hx=>by obtain⟨k,hk⟩:=List.getElem?_of_mem hx;obtain⟨_,_,_,_,_,_,rfl⟩:=evArgs_inv hk;rfl) ⟨by simp [aEid],by omega⟩ ?_ ?_ ?_)
  ·rintro k x L' l hx ⟨rfl,hI⟩
   obtain⟨p,hp,i,hi,hk,hev,rfl⟩:=evArgs_inv hx
   simp only[go_sem]
   refine Sd ?_
   refine AWp.of ?_;simp only[go_sem]
   refine Sd ?_
   intros
   refine AWp.of ?_;simp only[go_sem]
   refine Sd ?_
   intros
   refine AWp.of ?_;simp only[go_sem]
   refine W2 n67 n76 ?_
   refine⟨fun h2 h3 => ?_,fun h2 => ?_⟩
   ·refine W2 n67 n76 ?_
    have:=findIn_hit hev hI ⟨h2,h3⟩
    refine⟨_,List.Sublist.refl _,?_,?_⟩
    ·rw[this];show (0:Int)<(i:Int)+1;omega
    ·rw[this]
   ·refine⟨_,List.Sublist.refl _,rfl,fun j y hj hy => ?_⟩
    by_cases e:j=k
    ·subst e;rw[hev] at hy;cases hy;rintro⟨h3,h4⟩;exact h2 h3 h4
    ·exact hI j y (by omega) hy
  ·rintro L' ⟨rfl,hI⟩
   have h0:=findIn_none (l:=evIds ps) (kind:=kind) (m:=m) (fun x hx=>by
    obtain⟨j,hj⟩:=List.getElem?_of_mem hx
    exact hI j x (by unfold evArgs;rw[List.length_map];exact(List.getElem?_eq_some_iff.1 hj).1) hj)
   simp only[go_sem]
   refine W2 n67 n76 ?_
   rw[hf,h0]
   refine ret_eq ?_
   simp only[go_sem,n67,n76]
   rfl
  ·rintro e L' ⟨he,hpos,rfl⟩
   subst he
   show retK _ _ _ _ _
   rw[hf,decide_eq_true hpos]
   refine ret_eq ?_
   simp only[go_sem,n67,n76]
theorem trace_Sender (ps:List Pr) (hs:Sm ps) (m:Int):PC Proofs.Tryz.prog 107 [aTr ps,ai m] (.tup [aEid (findV ps 2 m),ab (decide (0<(findV ps 2 m).2))]):=by
 refine PC.enter 11 [.cell 4 54,.tmp 5] [2] Proofs.Tryz.func107 rfl rfl rfl rfl rfl (by simp) (AWp.of ?_);simp only[go_sem]
 intro b4
 refine Sd ?_
 refine AWp.of ?_;simp only[go_sem]
 refine Sd ?_
 refine(trace_find ps hs 2 m).val.use ?_;simp only[go_sem]
 refine Wk ?_
 refine ret_eq ?_;simp only[go_sem]
theorem cut_process (ps:List Pr) (p:Int):PC Proofs.Tryz.prog 99 [aTr ps,ai p] (ab (decide (0≤p) && decide (p<ps.length))):=by
 refine PC.enter 14 [.tmp 4] [2] Proofs.Tryz.func99 rfl rfl rfl rfl rfl (by simp) (AWp.of ?_);simp only[go_sem]
 refine Wk ?_
 refine ret_eq ?_;simp only[go_sem]
def cntOk (ps:List Pr) (c:List Int) (p:Nat):Bool :=
 match ps[p]?,c[p]? with
 | some x,some n=>decide (0≤n) && decide (n≤x.evs.length)
 | _,_=>true
def inRangeF (ps:List Pr) (c:List Int):Bool:=(List.range c.length).all (cntOk ps c)
theorem cut_inRange (ps:List Pr) (hs:Sm ps) (c:List Int) (hc:c.length=ps.length):PC Proofs.Tryz.prog 98 [aTr ps,aInts c] (ab (inRangeF ps c)):=by
 have hl:=hs.procs
 refine PC.enter 28 [.tmp 4] [2] Proofs.Tryz.func98 rfl rfl rfl rfl rfl (by simp) (AWp.of ?_);simp only[go_sem]
 refine Sd ?_
 refine AWp.of ?_;simp only[go_sem]
 refine AWp.range' c.length [] [2,7,8] (fun k vs L=>L=[]∧∀j,j<k→cntOk ps c j=true) (by omega) rfl rfl rfl ⟨rfl,by omega⟩ ?_ ?_
 ·rintro k vs L' hk - ⟨rfl,hI⟩
  have hkp:k<ps.length:=by omega
  have e:cntOk ps c k=(decide (0≤c[k]) && decide (c[k]≤ps[k].evs.length)):=by simp only[cntOk,List.getElem?_eq_getElem hk,List.getElem?_eq_getElem hkp]
  simp only[go_sem]
  repeat(first|((with_reducible refine AWp.ofC ?_ ?_);exact rfl;simp only[go_sem,getD_map hk,getD_map hkp])|((with_reducible refine an ?_ ?_);exact Au))
  refine⟨fun h1 => ?_,fun h1 h2 => ?_⟩
  ·refine Wk ?_
   refine ret_eq ?_;simp only[go_sem]
   have e2:cntOk ps c k=false:=by
    rw[e];rcases h1 with h1|h1
    ·rw[decide_eq_false (by omega)];rfl
    ·rw[decide_eq_false (p:=c[k]≤(ps[k].evs.length:Int)) (by omega),Bool.and_false]
   congr 2;symm
   unfold inRangeF;rw[List.all_eq_false]
   exact⟨k,List.mem_range.2 hk,by simp [e2]⟩
  ·refine⟨_,List.Sublist.refl _,rfl,fun j hj => ?_⟩
   by_cases ej:j=k
   ·rw[ej,e];simp;omega
   ·exact hI j (by omega)
 ·rintro vs L' - ⟨rfl,hI⟩
  simp only[go_sem]
  refine Wk ?_
  refine ret_eq ?_;simp only[go_sem]
  congr 2;symm
  unfold inRangeF;rw[List.all_eq_true]
  exact fun j hj=>hI j (List.mem_range.1 hj)
theorem cut_sized1 (ps:List Pr) (c:List Int):PC Proofs.Tryz.prog 120 [aInts c,.rp 1 [aTr ps] 0 0] (ab (!decide (c.length=ps.length))):=by
 refine PC.enter 10 [.tmp 3] [] Proofs.Tryz.func120 rfl rfl rfl rfl rfl (by simp) (AWp.of ?_);simp only[go_sem]
 refine Wk ?_
 refine ret_eq ?_;simp only[go_sem]
 congr 2;simp only[Int.natCast_inj]
noncomputable def sizedF (ps:List Pr) (l:List (List Int)):Bool:=validF ps && !l.any fun c => !decide (c.length=ps.length)
theorem cut_sized (ps:List Pr) (hs:Sm ps) (l:List (List Int)) (hl:l.length≤1000000):PC Proofs.Tryz.prog 97 [aTr ps,aRows l] (ab (sizedF ps l)):=by
 refine PC.enter 13 [.tmp 4] [2] Proofs.Tryz.func97 rfl rfl rfl rfl rfl (by simp) (AWp.of ?_);simp only[go_sem]
 refine Wk ?_
 refine Sd ?_
 refine(trace_Valid ps hs).val.use ?_;simp only[go_sem]
 refine Sd ?_
 refine GCall.use (ab (l.any fun c => !decide (c.length=ps.length))) (fun _=>⟨At,(rows_containsFunc l hl (.clo 120 [.rp 1 [aTr ps] 0 0]) rfl (fun c => !decide (c.length=ps.length)) fun c _=>(cut_sized1 ps c).clo).val.use ⟨rfl,rfl⟩⟩) ?_;simp only[go_sem]
 refine Wk ?_
 refine ret_eq ?_;simp only[go_sem]
 rfl
theorem valid_len {ps:List Pr} (h:validF ps=true):1≤ps.length∧ps.length≤8:=by
 unfold validF faultF at h
 simp only[decide_eq_true_eq] at h
 split at h
 ·simp at h
 ·rename_i hn
  have hn':inI ps.length 1 8=true:=by simpa using hn
  simp only[inI,Bool.and_eq_true,decide_eq_true_eq] at hn'
  omega
theorem findIn_or (ps:List Pr) (kind m:Int):findIn (evIds ps) kind m=(0,0)∨VEv ps (findIn (evIds ps) kind m):=by
 unfold findIn
 cases hf:(evIds ps).find? (fun x=>decide (x.2.kind=kind) && decide (x.2.msg=m)) with
 | none=>exact .inl rfl
 | some x=>exact .inr (VEv.of_mem (List.mem_of_find?_eq_some hf))
theorem findIn_proc {ps:List Pr} (h:1≤ps.length) (kind m:Int):0≤(findIn (evIds ps) kind m).1∧(findIn (evIds ps) kind m).1<ps.length:=by
 rcases findIn_or ps kind m with e|⟨p,hp,i,hi,e⟩
 ·rw[e];constructor
  ·exact Int.le_refl 0
  ·show (0:Int)<_;omega
 ·rw[e];constructor
  ·show (0:Int)≤(p:Int);omega
  ·show (p:Int)<_;omega
def cAt (c:List Int) (p:Int):Int:=c.getD p.toNat 0
theorem cAt_nat {c:List Int} {p:Nat} (h:p<c.length):cAt c p=c[p]:=by simp [cAt,List.getD_eq_getElem?_getD,h]
theorem getD_cAt {c:List Int} {p:Int} (h0:0≤p) (h:p<c.length):(c.map ai).getD p.toNat .any=ai (cAt c p):=by
 have h2:p.toNat<c.length:=by omega
 rw[getD_map h2];unfold cAt;simp [List.getD_eq_getElem?_getD,h2]
def badEv (ps:List Pr) (c:List Int) (x:Eid × Ev):Bool :=
 decide (x.2.kind=3) && decide (x.1.2≤cAt c x.1.1) && decide (cAt c (findIn (evIds ps) 2 x.2.msg).1<(findIn (evIds ps) 2 x.2.msg).2)
def missF (ps:List Pr) (c:List Int):Option (Eid × Eid):=((evIds ps).find? (badEv ps c)).map fun x=>(findIn (evIds ps) 2 x.2.msg,x.1)
def closedF (ps:List Pr) (c:List Int):Bool:=!(evIds ps).any (badEv ps c)
theorem missF_hit {ps:List Pr} {c:List Int} {k:Nat} {x:Eid × Ev} (hx:(evIds ps)[k]?=some x) (h0:∀(j:Nat) (y:Eid × Ev),j<k→(evIds ps)[j]?=some y→badEv ps c y=false) (h:badEv ps c x=true) :
  missF ps c=some (findIn (evIds ps) 2 x.2.msg,x.1):=by
 obtain⟨hk,he⟩:=List.getElem?_eq_some_iff.1 hx
 have:(evIds ps).find? (badEv ps c)=some x:=by
  rw[List.find?_eq_some_iff_getElem]
  exact⟨h,k,hk,he,fun j hj=>by simpa using h0 j _ hj (List.getElem?_eq_getElem (by omega))⟩
 unfold missF;rw[this];rfl
theorem missF_none {ps:List Pr} {c:List Int} (h:∀(j:Nat) (y:Eid × Ev),(evIds ps)[j]?=some y→badEv ps c y=false):missF ps c=none:=by
 have:(evIds ps).find? (badEv ps c)=none:=by
  rw[List.find?_eq_none];intro y hy
  obtain⟨j,hj⟩:=List.getElem?_of_mem hy
  simpa using h j y hj
 unfold missF;rw[this];rfl
theorem closedF_iff (ps:List Pr) (c:List Int):closedF ps c=(missF ps c).isNone:=by
 unfold closedF missF
 cases h:(evIds ps).find? (badEv ps c) with
 | none =>
  rw[List.find?_eq_none] at h
  have:(evIds ps).any (badEv ps c)=false:=by rw[List.any_eq_false];exact h
  rw[this];rfl
 | some x =>
  have:(evIds ps).any (badEv ps c)=true:=List.any_eq_true.2 ⟨x,List.mem_of_find?_eq_some h,List.find?_some h⟩
  rw[this];rfl
def aMiss (ps:List Pr) (c:List Int):AV:=match missF ps c with
 | some (s,r) => .tup [aEid s,aEid r,ab true]
 | none => .tup [aEid (0,0),aEid (0,0),ab false]
theorem inRangeF_get {ps:List Pr} {c:List Int} (h:inRangeF ps c=true) (hc:c.length=ps.length) {p:Nat} (hp:p<ps.length):0≤c[p]∧c[p]≤ps[p].evs.length:=by
 unfold inRangeF at h
 rw[List.all_eq_true] at h
 have:=h p (List.mem_range.2 (by omega))
 have hp':p<c.length:=by omega
 simp only[cntOk,List.getElem?_eq_getElem hp,List.getElem?_eq_getElem hp',Bool.and_eq_true,decide_eq_true_eq] at this
 exact this
theorem cut_missing (ps:List Pr) (hs:Sm ps) (c:List Int) (hv:validF ps=true) (hc:c.length=ps.length) (hr:inRangeF ps c=true):PC Proofs.Tryz.prog 121 [aTr ps,aInts c] (aMiss ps c):=by
 obtain⟨hl1,hl8⟩:=valid_len hv
 have hfv:∀m,findV ps 2 m=findIn (evIds ps) 2 m:=fun m=>by unfold findV;rw[hv];rfl
 refine PC.enter 61 [.cell 4 54,.cell 5 54,.tmp 6] [2,10,11] Proofs.Tryz.func121 rfl rfl rfl rfl rfl (by simp) (AWp.of ?_);simp only[go_sem]
 intro b4
 intro b5 h5
 have n45:¬b4=b5:=by omega
 have n54:¬b5=b4:=by omega
 refine Sd ?_
 refine AWp.of ?_;simp only[go_sem]
 refine AWp.range' c.length [] [1,2,4,5,13,14] (fun k vs L=>L=[(b5,.row 54 2 [aEid (0,0)] 1),(b4,.row 54 2 [aEid (0,0)] 1)]∧∀(j:Nat) (y:Eid × Ev),j<off ps k→(evIds ps)[j]?=some y→badEv ps c y=false) (by omega) rfl rfl rfl ⟨by simp [aEid],by simp [off]⟩ ?_ ?_
 ·rintro p vs L' hp - ⟨rfl,hI⟩
  have hpp:p<ps.length:=by omega
  obtain⟨hr1,hr2⟩:=inRangeF_get hr hc hpp
  have hel:=hs.evs _ (List.getElem_mem hpp)
  have hT:(ps[p].evs.take c[p].toNat).length=c[p].toNat:=by rw[List.length_take];omega
  simp only[go_sem]
  repeat(first|((with_reducible refine AWp.ofC ?_ ?_);exact rfl;simp only[go_sem,getD_map hp,getD_map hpp,hT])|((with_reducible refine an ?_ ?_);exact Au))
  refine AWp.range' c[p].toNat [] [1,2,4,5,7,13,14,15,27,28] (fun i vs L=>L=[(b5,.row 54 2 [aEid (0,0)] 1),(b4,.row 54 2 [aEid (0,0)] 1)]∧∀(j:Nat) (y:Eid × Ev),j<off ps p+i→(evIds ps)[j]?=some y→badEv ps c y=false) (by omega) rfl rfl rfl ⟨by simp [aEid],hI⟩ ?_ ?_
  ·rintro i vs L' hi - ⟨rfl,hI⟩
   have hi':i<(ps[p].evs.take c[p].toNat).length:=by omega
   have hie:i<ps[p].evs.length:=by omega
   have hge:(ps[p].evs.take c[p].toNat)[i]=ps[p].evs[i]:=List.getElem_take
   have hev:=evIds_get hpp hie
   have hbad:badEv ps c (((p:Int),(i:Int)+1),ps[p].evs[i])=(decide (ps[p].evs[i].kind=3) && decide (cAt c (findIn (evIds ps) 2 ps[p].evs[i].msg).1<(findIn (evIds ps) 2 ps[p].evs[i].msg).2)):=by
    simp only[badEv,cAt_nat hp,decide_eq_true (show (i:Int)+1≤c[p] by omega),Bool.and_true]
   simp only[go_sem]
   refine Sd ?_
   refine AWp.of ?_;simp only[go_sem,getD_map hi',hge]
   refine Sd ?_
   intros
   refine Wk ?_
   refine⟨fun h1 => ?_,fun h1 => ?_⟩
   ·refine⟨_,List.Sublist.refl _,rfl,fun j y hj hy => ?_⟩
    by_cases e:j=off ps p+i
    ·subst e;rw[hev] at hy;cases hy;rw[hbad,decide_eq_false h1];rfl
    ·exact hI j y (by omega) hy
   ·obtain⟨hf1,hf2⟩:=findIn_proc hl1 2 ps[p].evs[i].msg
    rw[decide_eq_true h1,Bool.true_and] at hbad
    have hs1:=trace_Sender ps hs ps[p].evs[i].msg
    rw[hfv] at hs1
    have hgc:=getD_cAt (c:=c) hf1 (by omega)
    generalize hsd:findIn (evIds ps) 2 ps[p].evs[i].msg=s at *
    refine Wk ?_
    refine Sd ?_
    refine(hs1).val.use ?_;simp only[go_sem]
    refine Sd ?_
    intros
    refine AWp.seq ?_
    refine AWp.drawn mixed 8 (by kernel_rfl) ?_;simp only[go_sem,hgc]
    refine Sd ?_
    refine W2 n45 n54 ?_
    refine⟨fun h2 => ?_,fun h2 => ?_⟩
    ·refine W2 n45 n54 ?_
     have hm:=missF_hit hev hI (by rw[hbad];exact decide_eq_true h2)
     rw[hsd] at hm
     have hmm:aMiss ps c = .tup [aEid s,aEid ((p:Int),(i:Int)+1),ab true]:=by unfold aMiss;rw[hm]
     rw[hmm]
     refine ret_eq ?_
     simp only[go_sem,n45,n54]
    ·refine⟨_,List.Sublist.refl _,rfl,fun j y hj hy => ?_⟩
     by_cases e:j=off ps p+i
     ·subst e;rw[hev] at hy;cases hy;rw[hbad];exact decide_eq_false h2
     ·exact hI j y (by omega) hy
  ·rintro vs L' - ⟨rfl,hI⟩
   simp only[go_sem]
   refine⟨_,List.Sublist.refl _,rfl,fun j y hj hy => ?_⟩
   rw[off_succ hpp] at hj
   by_cases e:j<off ps p+c[p].toNat
   ·exact hI j y e hy
   ·obtain⟨i,hi⟩:∃i,j=off ps p+i:=⟨j - off ps p,by omega⟩
    subst hi
    have hie:i<ps[p].evs.length:=by omega
    rw[evIds_get hpp hie] at hy;cases hy
    simp only[badEv,cAt_nat hp,decide_eq_false (show ¬(i:Int)+1≤c[p] by omega),Bool.and_false,Bool.false_and]
 ·rintro vs L' - ⟨rfl,hI⟩
  have hm:=missF_none (ps:=ps) (c:=c) (fun j y hy=>hI j y (by rw[hc,← evIds_length];exact(List.getElem?_eq_some_iff.1 hy).1) hy)
  have hmm:aMiss ps c = .tup [aEid (0,0),aEid (0,0),ab false]:=by unfold aMiss;rw[hm]
  simp only[go_sem]
  refine W2 n45 n54 ?_
  rw[hmm]
  refine ret_eq ?_
  simp only[go_sem,n45,n54]
theorem cut_closed (ps:List Pr) (hs:Sm ps) (c:List Int) (hv:validF ps=true) (hc:c.length=ps.length) (hr:inRangeF ps c=true):PC Proofs.Tryz.prog 100 [aTr ps,aInts c] (ab (closedF ps c)):=by
 have hm:=cut_missing ps hs c hv hc hr
 rw[closedF_iff]
 unfold aMiss at hm
 refine PC.enter 17 [.tmp 4] [2,5,6] Proofs.Tryz.func100 rfl rfl rfl rfl rfl (by simp) (AWp.of ?_);simp only[go_sem]
 refine Wk ?_
 cases h:missF ps c with
 | none =>
  rw[h] at hm
  refine Sd ?_
  refine(hm).val.use ?_;simp only[go_sem]
  refine Sd ?_
  intro b5 b6 h6
  have n56:¬b5=b6:=by omega
  have n65:¬b6=b5:=by omega
  simp only[go_sem,n56,n65]
  refine Wk ?_
  refine ret_eq ?_;simp only[go_sem]
  rfl
 | some x =>
  obtain⟨a,b⟩:=x
  rw[h] at hm
  refine Sd ?_
  refine(hm).val.use ?_;simp only[go_sem]
  refine Sd ?_
  intro b5 b6 h6
  have n56:¬b5=b6:=by omega
  have n65:¬b6=b5:=by omega
  simp only[go_sem,n56,n65]
  refine Wk ?_
  refine ret_eq ?_;simp only[go_sem]
  rfl
noncomputable def givenF (ps:List Pr) (l:List (List Int)) (procs:List Int):Int :=
 if !sizedF ps l then 1 else if !l.all (inRangeF ps) then 2 else if !procs.all (fun p=>decide (0≤p) && decide (p<ps.length)) then 2 else if !l.all (closedF ps) then 18 else 0
theorem sizedF_inv {ps:List Pr} {l:List (List Int)} (h:sizedF ps l=true):validF ps=true∧∀c ∈ l,c.length=ps.length:=by
 unfold sizedF at h
 rw[Bool.and_eq_true] at h
 refine⟨h.1,fun c hc => ?_⟩
 have:=h.2
 rw[Bool.not_eq_true',List.any_eq_false] at this
 simpa using this c hc
theorem all_of_lt {α:Type} {l:List α} {p:α→Bool} (h:∀(i:Nat) (hi:i<l.length),p l[i]=true):l.all p=true:=by
 rw[List.all_eq_true];intro x hx;obtain⟨i,hi,rfl⟩:=List.getElem_of_mem hx;exact h i hi
theorem all_false_at {α:Type} {l:List α} {p:α→Bool} {i:Nat} (hi:i<l.length) (h:p l[i]=false):l.all p=false:=by
 rw[List.all_eq_false];exact⟨l[i],List.getElem_mem hi,by simp [h]⟩
theorem cut_given (ps:List Pr) (hs:Sm ps) (l:List (List Int)) (hl:l.length≤1000000) (procs:List Int) (hp:procs.length≤1000000):PC Proofs.Tryz.prog 75 [aTr ps,aRows l,aInts procs] (ai (givenF ps l procs)):=by
 refine PC.enter 50 [.tmp 6] [3] Proofs.Tryz.func75 rfl rfl rfl rfl rfl (by simp) (AWp.of ?_);simp only[go_sem]
 refine Wk ?_
 refine Sd ?_
 refine(cut_sized ps hs l hl).val.use ?_;simp only[go_sem]
 refine Wk ?_
 refine⟨fun h1 => ?_,fun h1 => ?_⟩
 ·refine Wk ?_
  refine ret_eq ?_;simp only[go_sem]
  unfold givenF;rw[if_pos (by simp [h1])]
 ·obtain⟨hv,hc⟩:=sizedF_inv h1
  refine Sd ?_
  refine AWp.of ?_;simp only[go_sem]
  refine AWp.range' l.length [] [1,2,3,17,18] (fun k vs L=>L=[]∧∀(i:Nat) (hi:i<l.length),i<k→inRangeF ps l[i]=true) (by omega) rfl rfl rfl ⟨rfl,by omega⟩ ?_ ?_
  ·rintro k vs L' hk - ⟨rfl,hI⟩
   simp only[go_sem]
   refine Sd ?_
   refine AWp.of ?_;simp only[go_sem,getD_map hk]
   refine Wk ?_
   refine Sd ?_
   refine(cut_inRange ps hs l[k] (hc _ (List.getElem_mem hk))).val.use ?_;simp only[go_sem]
   refine Wk ?_
   refine⟨fun h2 => ?_,fun h2 => ?_⟩
   ·refine Wk ?_
    refine ret_eq ?_;simp only[go_sem]
    unfold givenF;rw[if_neg (by simp [h1]),if_pos (by rw[all_false_at hk h2];rfl)]
   ·refine⟨_,List.Sublist.refl _,rfl,fun i hi hik => ?_⟩
    by_cases e:i=k
    ·subst e;exact h2
    ·exact hI i hi (by omega)
  ·rintro vs L' - ⟨rfl,hI⟩
   have ha:=all_of_lt (p:=inRangeF ps) (fun i hi=>hI i hi hi)
   simp only[go_sem]
   refine Sd ?_
   refine AWp.of ?_;simp only[go_sem]
   refine AWp.range' procs.length [] [1,3,28,29] (fun k vs L=>L=[]∧∀(i:Nat) (hi:i<procs.length),i<k→(decide (0≤procs[i]) && decide (procs[i]<ps.length))=true) (by omega) rfl rfl rfl ⟨rfl,by omega⟩ ?_ ?_
   ·rintro k vs L' hk - ⟨rfl,hI⟩
    simp only[go_sem]
    refine Sd ?_
    refine AWp.of ?_;simp only[go_sem,getD_map hk]
    refine Wk ?_
    refine Sd ?_
    refine(cut_process ps procs[k]).val.use ?_;simp only[go_sem]
    refine Wk ?_
    refine⟨fun h2 => ?_,fun h2 h3 => ?_⟩
    ·refine Wk ?_
     refine ret_eq ?_;simp only[go_sem]
     unfold givenF;rw[if_neg (by simp [h1]),if_neg (by simp [ha]),if_pos (by rw[all_false_at hk (by simpa using h2)];rfl)]
    ·refine⟨_,List.Sublist.refl _,rfl,fun i hi hik => ?_⟩
     by_cases e:i=k
     ·subst e;exact⟨h2,h3⟩
     ·have:=hI i hi (by omega);simpa using this
   ·rintro vs L' - ⟨rfl,hI⟩
    have hb:=all_of_lt (l:=procs) (p:=fun p=>decide (0≤p) && decide (p<(ps.length:Int))) (fun i hi=>by have:=hI i hi hi;simpa using this)
    simp only[go_sem]
    refine Sd ?_
    refine AWp.of ?_;simp only[go_sem]
    refine AWp.range' l.length [] [3,39,40] (fun k vs L=>L=[]∧∀(i:Nat) (hi:i<l.length),i<k→closedF ps l[i]=true) (by omega) rfl rfl rfl ⟨rfl,by omega⟩ ?_ ?_
    ·rintro k vs L' hk - ⟨rfl,hI⟩
     have hir:inRangeF ps l[k]=true:=by rw[List.all_eq_true] at ha;exact ha _ (List.getElem_mem hk)
     simp only[go_sem]
     refine Sd ?_
     refine AWp.of ?_;simp only[go_sem,getD_map hk]
     refine Wk ?_
     refine Sd ?_
     refine(cut_closed ps hs l[k] hv (hc _ (List.getElem_mem hk)) hir).val.use ?_;simp only[go_sem]
     refine Wk ?_
     refine⟨fun h2 => ?_,fun h2 => ?_⟩
     ·refine Wk ?_
      refine ret_eq ?_;simp only[go_sem]
      unfold givenF;rw[if_neg (by simp [h1]),if_neg (by simp [ha]),if_neg (by rw[hb];decide),if_pos (by rw[all_false_at hk h2];rfl)]
     ·refine⟨_,List.Sublist.refl _,rfl,fun i hi hik => ?_⟩
      by_cases e:i=k
      ·subst e;exact h2
      ·exact hI i hi (by omega)
    ·rintro vs L' - ⟨rfl,hI⟩
     have hd:=all_of_lt (p:=closedF ps) (fun i hi=>hI i hi hi)
     simp only[go_sem]
     refine Wk ?_
     refine ret_eq ?_;simp only[go_sem]
     unfold givenF;rw[if_neg (by simp [h1]),if_neg (by simp [ha]),if_neg (by rw[hb];decide),if_neg (by rw[hd];decide)]
def assignL (s:List Int) (l:List (Int × Int)):List Int:=l.foldl (fun s a=>s.set a.1.toNat a.2) s
def stateAt (x:Pr) (k:Nat):List Int:=(x.evs.take k).foldl (fun s e=>assignL s e.asg) (x.vars.map (·.2))
def valuesAt (ps:List Pr) (c:List Int):List (List Int):=(ps.zip c).map fun x=>stateAt x.1 x.2.toNat
theorem givenF_zero {ps:List Pr} {c:List Int} (h:givenF ps [c] []=0):validF ps=true∧c.length=ps.length∧inRangeF ps c=true∧closedF ps c=true:=by
 unfold givenF at h
 split at h
 ·cases h
 ·rename_i h1
  have h1':sizedF ps [c]=true:=by simpa using h1
  obtain⟨hv,hc⟩:=sizedF_inv h1'
  split at h
  ·cases h
  ·rename_i h2
   split at h
   ·cases h
   ·split at h
    ·cases h
    ·rename_i h3
     exact⟨hv,hc c (by simp),by simpa using h2,by simpa using h3⟩
def foldF (f:Int→Int→Int):List (List Int)→List Int
 | []=>[]
 | r :: rs=>rs.foldl (List.zipWith f) r
def kZ (l:List (List Int)):List Int:=List.zipWith (fun a b=>a - b) (foldF max l) (foldF min l)
def keptF (l:List (List Int)):Int:=(kZ l).sum
theorem ints_equal (a b:List Int) (ha:a.length≤1000000):PC Proofs.Tryz.prog 54 [aInts a,aInts b] (ab (decide (a=b))):=by
 refine PC.enter 26 [.tmp 4] [] Proofs.Tryz.func54 rfl rfl rfl rfl rfl (by simp) (AWp.of ?_);simp only[go_sem]
 refine Wk ?_
 refine⟨fun h1 => ?_,fun h1 => ?_⟩
 ·refine Wk ?_
  refine ret_eq ?_;simp only[go_sem]
  congr 2;symm;apply decide_eq_false;rintro rfl;exact h1 rfl
 ·have hab:a.length=b.length:=by omega
  refine Sd ?_
  refine AWp.of ?_;simp only[go_sem]
  refine AWp.range' a.length [] [0,1,12] (fun k vs L=>L=[]∧∀(i:Nat) (hi:i<a.length),i<k→a[i]=b[i]) (by omega) rfl rfl rfl ⟨rfl,by omega⟩ ?_ ?_
  ·rintro k vs L' hk - ⟨rfl,hI⟩
   have hkb:k<b.length:=by omega
   simp only[go_sem]
   refine Wk ?_
   refine AWp.seq ?_
   refine AWp.drawn mixed 9 (by kernel_rfl) ?_;simp only[go_sem,getD_map hk,getD_map hkb]
   refine Sd ?_
   refine Wk ?_
   refine⟨fun h2 => ?_,fun h2 => ?_⟩
   ·refine Wk ?_
    refine ret_eq ?_;simp only[go_sem]
    congr 2;symm;apply decide_eq_false;rintro rfl;exact h2 rfl
   ·refine⟨_,List.Sublist.refl _,rfl,fun i hi hik => ?_⟩
    by_cases e:i=k
    ·subst e;exact h2
    ·exact hI i hi (by omega)
  ·rintro vs L' - ⟨rfl,hI⟩
   simp only[go_sem]
   refine Wk ?_
   refine ret_eq ?_;simp only[go_sem]
   congr 2;symm;apply decide_eq_true
   exact List.ext_getElem hab (fun i h1 h2=>hI i h1 h1)
end Go.AL
end
section
namespace Go.AL
open Go Go.RowKit Go.Sort Go.Proofs
set_option maxRecDepth 4000
def cmpL:List Int→List Int→Int
 | [],[]=>0
 | [],_ :: _ => -1
 | _ :: _,[]=>1
 | x :: xs,y :: ys=>if x<y then -1 else if y<x then 1 else cmpL xs ys
theorem cmpL_cons (x y:Int) (xs ys:List Int):cmpL (x :: xs) (y :: ys)=if x<y then -1 else if y<x then 1 else cmpL xs ys:=by rw[cmpL]
theorem cmpL_irr:∀a,cmpL a a=0
 | []=>rfl
 | x :: xs=>by unfold cmpL;rw[if_neg (by omega),if_neg (by omega)];exact cmpL_irr xs
theorem cmpL_anti:∀a b,¬cmpL a b<0→¬cmpL b a<0→a=b
 | [],[],_,_=>rfl
 | [],_ :: _,h,_=>absurd (show cmpL [] _<0 from (by unfold cmpL;omega)) h
 | _ :: _,[],_,h=>absurd (show cmpL [] _<0 from (by unfold cmpL;omega)) h
 | x :: xs,y :: ys,h1,h2=>by
  unfold cmpL at h1 h2
  by_cases c1:x<y
  ·rw[if_pos c1] at h1;omega
  ·by_cases c2:y<x
   ·rw[if_pos c2] at h2;omega
   ·rw[if_neg c1,if_neg c2] at h1;rw[if_neg c2,if_neg c1] at h2
    rw[cmpL_anti xs ys h1 h2,show x=y by omega]
theorem cmpL_trans:∀a b c,cmpL a b<0→cmpL b c<0→cmpL a c<0
 | [],_,[],h1,h2=>by
  cases ‹List Int› with
  | nil=>unfold cmpL at h1;omega
  | cons=>unfold cmpL at h2;omega
 | [],_,_ :: _,_,_=>by unfold cmpL;omega
 | _ :: _,[],_,h,_=>by unfold cmpL at h;omega
 | _ :: _,_ :: _,[],_,h=>by unfold cmpL at h;omega
 | x :: xs,y :: ys,z :: zs,h1,h2=>by
  unfold cmpL at h1 h2 ⊢
  by_cases c1:x<y
  ·by_cases c2:y<z
   ·rw[if_pos (by omega)];omega
   ·rw[if_neg c2] at h2
    by_cases c3:z<y
    ·rw[if_pos c3] at h2;omega
    ·rw[if_pos (by omega)];omega
  ·rw[if_neg c1] at h1
   by_cases c4:y<x
   ·rw[if_pos c4] at h1;omega
   ·rw[if_neg c4] at h1
    by_cases c2:y<z
    ·rw[if_pos (by omega)];omega
    ·rw[if_neg c2] at h2
     by_cases c3:z<y
     ·rw[if_pos c3] at h2;omega
     ·rw[if_neg c3] at h2
      rw[if_neg (by omega),if_neg (by omega)]
      exact cmpL_trans xs ys zs h1 h2
theorem cmpL_ntrans (a b c:List Int) (h1:¬cmpL a b<0) (h2:¬cmpL b c<0):¬cmpL a c<0:=fun h=>by
 by_cases e:cmpL b a<0
 ·exact h2 (cmpL_trans b a c e h)
 ·rw[cmpL_anti a b h1 e] at h;exact h2 h
theorem swoL:SWO (ltOf cmpL) where
 irrefl x:=by simp [ltOf,cmpL_irr]
 trans x y z h1 h2:=by simp only[ltOf,decide_eq_true_eq] at *;exact cmpL_trans x y z h1 h2
 ntrans x y z h1 h2:=by simp only[ltOf,decide_eq_false_iff_not] at *;exact cmpL_ntrans x y z h1 h2
theorem cmpL_drop:∀(k:Nat) (a b:List Int),k≤a.length→k≤b.length→(∀(i:Nat) (h:i<a.length) (h':i<b.length),i<k→a[i]=b[i])→cmpL a b=cmpL (a.drop k) (b.drop k)
 | 0,_,_,_,_,_=>rfl
 | k+1,[],_,h,_,_=>by simp at h
 | k+1,_ :: _,[],_,h,_=>by simp at h
 | k+1,x :: a,y :: b,h1,h2,h3=>by
  have e:x=y:=h3 0 (by simp) (by simp) (by omega)
  subst e
  rw[List.drop_succ_cons,List.drop_succ_cons,← cmpL_drop k a b (by simpa using h1) (by simpa using h2) fun i h h' hi=>h3 (i+1) (by simpa using h) (by simpa using h') (by omega)]
  conv=>lhs;unfold cmpL
  rw[if_neg (by omega),if_neg (by omega)]
theorem nan_int (x:Int):PC Proofs.Tryz.prog 141 [ai x] (ab false):=by
 refine PC.enter 6 [.tmp 2] [] Proofs.Tryz.func141 rfl rfl rfl rfl rfl (by simp) (AWp.of ?_);simp only[go_sem]
 refine Wk ?_
 refine ret_eq ?_;simp only[go_sem]
def cmpI (x y:Int):Int:=if x<y then -1 else if y<x then 1 else 0
theorem cmp_int (x y:Int):PC Proofs.Tryz.prog 125 [ai x,ai y] (ai (cmpI x y)):=by
 refine PC.enter 20 [.tmp 4] [] Proofs.Tryz.func125 rfl rfl rfl rfl rfl (by simp) (AWp.of ?_);simp only[go_sem]
 refine Wk ?_
 refine Sd ?_
 refine(nan_int x).val.use ?_;simp only[go_sem]
 refine Wk ?_
 refine Sd ?_
 refine(nan_int y).val.use ?_;simp only[go_sem]
 refine Wk ?_
 refine Wk ?_
 refine⟨fun h => ?_,fun h => ?_⟩
 ·refine Wk ?_
  refine ret_eq ?_;simp only[go_sem]
  unfold cmpI;rw[if_pos h]
 ·refine Wk ?_
  refine⟨fun h2 => ?_,fun h2 => ?_⟩
  ·refine Wk ?_
   refine ret_eq ?_;simp only[go_sem]
   unfold cmpI;rw[if_neg h,if_pos (by omega)]
  ·refine Wk ?_
   refine ret_eq ?_;simp only[go_sem]
   unfold cmpI;rw[if_neg h,if_neg (by omega)]
theorem ints_compare (a b:List Int) (ha:a.length≤1000000):PC Proofs.Tryz.prog 111 [aInts a,aInts b] (ai (cmpL a b)):=by
 refine PC.enter 36 [.tmp 4] [] Proofs.Tryz.func111 rfl rfl rfl rfl rfl (by simp) (AWp.of ?_);simp only[go_sem]
 refine Wk ?_
 refine AWp.range' a.length [] [0,1,9,10] (fun k vs L=>L=[]∧k≤b.length∧∀(i:Nat) (hi:i<a.length) (h':i<b.length),i<k→a[i]=b[i]) (by omega) rfl rfl rfl ⟨rfl,by omega,by omega⟩ ?_ ?_
 ·rintro k vs L' hk - ⟨rfl,hkb,hI⟩
  simp only[go_sem]
  have hd:=cmpL_drop k a b (by omega) hkb hI
  rw[List.drop_eq_getElem_cons hk] at hd
  repeat(first|((with_reducible refine AWp.ofC ?_ ?_);exact rfl;simp only[go_sem,getD_map hk])|((with_reducible refine an ?_ ?_);exact Au))
  refine Wk ?_
  refine⟨fun h1 => ?_,fun h1 => ?_⟩
  ·refine Wk ?_
   refine ret_eq ?_;simp only[go_sem]
   rw[hd,show b.drop k=[] from List.drop_of_length_le (by omega)];rfl
  ·have hkb2:k<b.length:=by omega
   rw[List.drop_eq_getElem_cons hkb2] at hd
   rw[cmpL_cons] at hd
   repeat(first|((with_reducible refine AWp.ofC ?_ ?_);exact rfl;simp only[go_sem,getD_map hkb2])|((with_reducible refine an ?_ ?_);exact Au))
   refine Sd ?_
   refine(cmp_int a[k] b[k]).val.use ?_;simp only[go_sem]
   refine Wk ?_
   refine⟨fun h2 => ?_,fun h2 => ?_⟩
   ·refine Wk ?_
    refine ret_eq ?_;simp only[go_sem]
    rw[hd];unfold cmpI at h2 ⊢
    by_cases c1:a[k]<b[k]
    ·rw[if_pos c1,if_pos c1]
    ·by_cases c2:b[k]<a[k]
     ·rw[if_neg c1,if_neg c1,if_pos c2,if_pos c2]
     ·rw[if_neg c1,if_neg c2] at h2;exact absurd rfl h2
   ·refine⟨[],List.Sublist.refl _,rfl,by omega,fun i hi h' hik => ?_⟩
    by_cases e:i=k
    ·subst e;unfold cmpI at h2
     by_cases c1:a[i]<b[i]
     ·rw[if_pos c1] at h2;exact absurd h2 (by omega)
     ·by_cases c2:b[i]<a[i]
      ·rw[if_neg c1,if_pos c2] at h2;exact absurd h2 (by omega)
      ·omega
    ·exact hI i hi h' (by omega)
 ·rintro vs L' - ⟨rfl,hkb,hI⟩
  simp only[go_sem]
  have hd:=cmpL_drop a.length a b (by omega) hkb hI
  rw[List.drop_of_length_le (Nat.le_refl _)] at hd
  refine Wk ?_
  refine⟨fun h1 => ?_,fun h1 => ?_⟩
  ·refine Wk ?_
   refine ret_eq ?_;simp only[go_sem]
   rw[hd,List.drop_eq_getElem_cons (show a.length<b.length by omega)];rfl
  ·refine Wk ?_
   refine ret_eq ?_;simp only[go_sem]
   rw[hd,List.drop_of_length_le (by omega)];rfl
theorem next_cmp (a b:List Int) (ha:a.length≤1000000):PC Proofs.Tryz.prog 110 [aInts a,aInts b] (ai (cmpL a b)):=by
 refine PC.enter 8 [.tmp 4] [] Proofs.Tryz.func110 rfl rfl rfl rfl rfl (by simp) (AWp.of ?_);simp only[go_sem]
 refine Wk ?_
 refine Sd ?_
 refine(ints_compare a b ha).val.use ?_;simp only[go_sem]
 refine Wk ?_
 refine ret_eq ?_;simp only[go_sem]
theorem next_same (a b:List Int) (ha:a.length≤1000000):PC Proofs.Tryz.prog 113 [aInts a,aInts b] (ab (decide (a=b))):=by
 refine PC.enter 8 [.tmp 4] [] Proofs.Tryz.func113 rfl rfl rfl rfl rfl (by simp) (AWp.of ?_);simp only[go_sem]
 refine Wk ?_
 refine Sd ?_
 refine(ints_equal a b ha).val.use ?_;simp only[go_sem]
 refine Wk ?_
 refine ret_eq ?_;simp only[go_sem]
def sortL (xs:List (List Int)):List (List Int):=sortBy cmpL xs
theorem sort_rows (b cap:Nat) (xs:List (List Int)) (hx:∀x ∈ xs,x.length≤1000000) (hl:xs.length≤1000000) (t:TypeId) :
  MCalls Proofs.Tryz.prog 109 [.ls b 1 0 xs.length cap,.v (.func (.func 110) #[] #[])] [(b,.row t 1 (xs.map aInts) cap)] fun r L'=>r = .tup []∧L'=[(b,.row t 1 ((sortL xs).map aInts) cap)] :=
 sort_calls' sortRows aInts (fun x=>x.length≤1000000) [] (by simp) (fun w A=>⟨.slice none 0 0,.sl0 _ _ _ (Nat.zero_le _)⟩) (fun x _=>rfl) cmpL swoL cmpL_anti (fun x y h _=>next_cmp x y h) b cap xs hx (by omega)
end Go.AL
end
section
namespace Go.AL
open Go Go.RowKit
section
variable {C:Cfg} {c:Code} {Q:AQ} {ρ:Env} {L:AHeap}
theorem AWp.perm {L':AHeap} (hp:L.Perm L') (h:AWp C c Q ρ L'):AWp C c Q ρ L :=
 AWp.st (fun _ _ _ _ _ hs=>st_view hs (Lf:=[]) (Lk:=L') hp (LVw.refl _) fun _ => .inr (.refl _)) h
theorem AWp.nodup (h:(L.map (·.1)).Nodup→AWp C c Q ρ L):AWp C c Q ρ L:=fun hok n w0 M A0 a w hs=>by
 obtain⟨A,ds,hs'⟩:=st_iff.1 hs
 exact h hs'.l.nodup hok n w0 M A0 a w hs
theorem AWp.viewP {Lf Lk L':AHeap} (hp:L.Perm (Lf ++ Lk)) (hv:LVw Lf Lk L') (sv:List (Nat × AV)) (hs:∀p ∈ sv,Vw Lf (get ρ p.1) p.2) (h:AWp C c Q (sv ++ ρ) L'):AWp C c Q ρ L:=by
 refine AWp.st (fun w0 M A0 a w hst=>st_view hst hp hv fun i => .inr ?_) h
 clear h
 induction sv with
 | nil=>exact .refl _
 | cons p sv ih =>
  obtain⟨j,x⟩:=p
  simp only[List.cons_append,get]
  split
  ·rename_i e;subst e;exact hs (i,x) List.mem_cons_self
  ·exact ih fun p hp=>hs p (List.mem_cons_of_mem _ hp)
theorem AWp.rowLe {b k cap:Nat} {t:TypeId} {xs:List AV} (hm:(b,.row t k xs cap) ∈ L) (h:xs.length≤cap→AWp C c Q ρ L):AWp C c Q ρ L:=fun hok n w0 M A0 a w hs=>by
 obtain⟨A,ds,hs'⟩:=st_iff.1 hs
 obtain⟨_,_,_,h3,_⟩:=hs'.l.blk _ hm
 exact h h3 hok n w0 M A0 a w hs
theorem AWp.loopN (ls ks:List Nat) (I:Nat→List AV→AHeap→Prop) (m0:Nat) (h0:I m0 (ls.map (get ρ)) L)
  (round:∀m vs L',vs.length=ls.length→I m vs L'→AWp C c (roundQ ls ks ρ (fun vs' L''=>∃m',m'<m∧I m' vs' L'') Q) (lenv ls ks vs ρ) L'):AWp C (.loop c) Q ρ L:=by
 open Classical in
 let μ:List AV→AHeap→Nat:=fun vs L=>if h:∃m,I m vs L then Classical.choose (least h) else 0
 refine AWp.loop ls ks (fun vs L=>∃m,I m vs L) μ ⟨m0,h0⟩ fun vs L' hl hI => ?_
 have hμ:μ vs L'=Classical.choose (least hI):=dif_pos hI
 have hm:=(Classical.choose_spec (least hI)).1
 refine(round _ vs L' hl hm).mono fun e ρ' L'' hq => ?_
 cases e with
 | normal =>
  obtain⟨h1,L3,h2,m',h3,h4⟩:=hq
  have hx:∃m,I m (ls.map (get ρ')) L3:=⟨m',h4⟩
  refine⟨h1,L3,h2,hx,?_⟩
  have e:μ (ls.map (get ρ')) L3=Classical.choose (least hx):=dif_pos hx
  rw[e,hμ]
  exact Nat.lt_of_le_of_lt ((Classical.choose_spec (least hx)).2 _ h4) h3
 | _=>exact hq
end
theorem lk_of_mem {L:AHeap} (hn:(L.map (·.1)).Nodup) {b:Nat} {x:ABlk} (h:(b,x) ∈ L):lk L b=some x:=by
 induction L with
 | nil=>cases h
 | cons y r ih =>
  obtain⟨b',y⟩:=y
  simp only[List.map_cons,List.nodup_cons] at hn
  simp only[lk]
  rcases List.mem_cons.1 h with e|h'
  ·cases e;rw[if_pos rfl]
  ·have hne:¬b=b':=fun e=>by subst e;exact hn.1 (List.mem_map_of_mem (f:=(·.1)) h')
   rw[if_neg hne,ih hn.2 h']
theorem flatMap_ext {α β:Type} {f g:α→List β} : ∀ {l:List α},(∀x ∈ l,f x=g x)→l.flatMap f=l.flatMap g
 | [],_=>rfl
 | x :: l,h=>by simp only[List.flatMap_cons];rw[h x (by simp),flatMap_ext fun y hy=>h y (List.mem_cons_of_mem _ hy)]
def famL (n:Nat) (Ls:Nat→AHeap):AHeap:=(List.range n).flatMap Ls
def famR (n p:Nat) (Ls:Nat→AHeap):AHeap:=((List.range n).erase p).flatMap Ls
theorem fam_split {n p:Nat} (hp:p<n) (Ls:Nat→AHeap):(famL n Ls).Perm (Ls p ++ famR n p Ls):=by
 have h:=List.Perm.flatMap_right Ls (List.perm_cons_erase (List.mem_range.2 hp))
 rwa [List.flatMap_cons] at h
theorem famR_congr {n p:Nat} {Ls Ls':Nat→AHeap} (h:∀q,q ≠ p→Ls' q=Ls q):famR n p Ls'=famR n p Ls :=
 flatMap_ext fun q hq=>h q fun e=>by subst e;exact(List.nodup_range.not_mem_erase) hq
theorem fam_nil (n:Nat):famL n (fun _=>[])=[]:=by unfold famL;simp
theorem map_range_set (n p:Nat) (V:Nat→AV) (x:AV):((List.range n).map V).set p x=(List.range n).map fun q=>if q=p then x else V q:=by
 apply List.ext_getElem?
 intro i
 rw[List.getElem?_set,List.getElem?_map,List.getElem?_map]
 by_cases hi:i<n
 ·rw[List.getElem?_range hi]
  by_cases e:p=i
  ·subst e;simp [hi]
  ·rw[if_neg e];simp [Ne.symm e]
 ·have:(List.range n)[i]?=none:=by simp;omega
  rw[this]
  split
  ·split
   ·rename_i h;simp at h;omega
   ·rfl
  ·rfl
theorem fam_views {n k:Nat} {t:TypeId} {V:Nat→AV} {Ls:Nat→AHeap} {Y:Nat→List AV} (hn:((famL n Ls).map (·.1)).Nodup) (h:∀p,p<n→AppSt t k (Y p) (V p) (Ls p)) :
  Vws (famL n Ls) ((List.range n).map V) ((List.range n).map fun p => .sl k (Y p)):=by
 refine⟨by simp,fun i x y hx hy => ?_⟩
 by_cases hi:i<n
 ·rw[List.getElem?_map,List.getElem?_range hi] at hx hy
  cases hx;cases hy
  show Vw (famL n Ls) (V i) (.sl k (Y i))
  rcases (h i hi).inv with ⟨e1,e2,_⟩|⟨b,cap,e1,e2⟩
  ·rw[e1,e2];exact .nil k
  ·rw[e1]
   refine Vw.ofLs (t:=t) (cap:=cap) (lk_of_mem hn ?_) rfl
   unfold famL
   exact List.mem_flatMap.2 ⟨i,List.mem_range.2 hi,by rw[e2];exact List.mem_singleton_self _⟩
 ·have:(List.range n)[i]?=none:=by simp;omega
  rw[List.getElem?_map,this] at hx;cases hx
theorem map_range_getD {n p:Nat} (hp:p<n) (V:Nat→AV):((List.range n).map V).getD p .any=V p:=by
 rw[List.getD_eq_getElem?_getD,List.getElem?_map,List.getElem?_range hp];rfl
end Go.AL
end
section
namespace Go.AL
open Go Go.RowKit
variable {C:Cfg} {a b:Code} {Q:AQ} {ρ:Env} {L:AHeap}
theorem AWp.cutF (ks:List Nat) (J:List AV→AHeap→Prop) (h1:AWp C a (cutQ ks J fun _ _ _=>False) ρ [])
  (h2:∀vs L',vs.length=ks.length→J vs L'→AWp C b Q (ks.zip vs) (L ++ L')):AWp C (.seq a b) Q ρ L:=by
 refine AWp.cut ks (fun vs L'=>∃L1,L'=L ++ L1∧J vs L1) ?_ ?_
 ·have h:=AWp.frame L h1
  rw[List.append_nil] at h
  refine h.mono fun e ρ' L'' ⟨L',e1,hq⟩ => ?_
  cases e with
  | normal =>
   obtain⟨L1,hs,hj⟩:=hq
   exact⟨L ++ L1,e1 ▸ (List.Sublist.refl _).append hs,L1,rfl,hj⟩
  | _=>exact hq.elim
 ·rintro vs L' hl ⟨L1,rfl,hj⟩
  exact h2 vs L1 hl hj
theorem AWp.viewA {c:Code} {t:TypeId} {k j:Nat} {ys:List AV} {v:AV} {L1:AHeap} (hA:AppSt t k ys v L1) (hj:get ρ j=v) (h:AWp C c Q ((j,.sl k ys) :: ρ) L):AWp C c Q ρ (L ++ L1):=by
 refine AWp.viewP (Lf:=L1) (Lk:=L) (L':=L) List.perm_append_comm (LVw.refl _) [(j,.sl k ys)] (fun p hp => ?_) h
 obtain rfl:=List.mem_singleton.1 hp
 have:=hA.vw []
 rw[List.append_nil] at this
 rw[hj];exact this
theorem AWp.capOk {c:Code} {b k cap:Nat} {t:TypeId} {xs:List AV} (hl:lk L b=some (.row t k xs cap)) (h:xs.length≤cap→AWp C c Q ρ L):AWp C c Q ρ L:=fun hok n w0 M A0 a w hs=>by
 obtain⟨A,ds,h1,h2,h3,h4⟩:=hs
 obtain⟨_,_,_,h5,_⟩:=BlkRel.row_iff.1 (h3.lk hl)
 exact h h5 hok n w0 M A0 a w ⟨A,ds,h1,h2,h3,h4⟩
end Go.AL
end
section
namespace Go.AL
open Go Go.RowKit
def aNilR (P:Program) (op:BinOp) (t:TypeId) (x y:AV):Option (Prop × AV) :=
 match x,y,tinfo P t with
 | .sl _ xs,.v (.slice none 0 0),some ⟨.slice _,_,_,_⟩=>match op with
  | .eql=>some (xs ≠ [],ab false)
  | .neq=>some (xs ≠ [],ab true)
  | _=>none
 | _,_,_=>none
def avalR (P:Program) (ρ:Env) (L:AHeap) (op:Op):Option (Prop × AV) :=
 match aval P ρ L op with
 | some z=>some z
 | none=>match op with
  | .binOp b t x y _=>w2 (ev ρ x) (ev ρ y) (aNilR P b t)
  | _=>none
theorem avalR_congr {P:Program} {ρ ρ':Env} {L:AHeap} {op:Op} (h:∀x ∈ op.operands,ev ρ' x=ev ρ x):avalR P ρ' L op=avalR P ρ L op:=by
 unfold avalR
 rw[aval_congr h]
 cases op with
 | binOp b t x y t' =>
  have e1:=h x (by simp [Op.operands])
  have e2:=h y (by simp [Op.operands])
  simp only[e1,e2]
 | _=>rfl
theorem aNilR_sound {C:Cfg} {o:Oper} {ρ:Env} {L:AHeap} {op:BinOp} {t t':TypeId} {x y:Operand} (ho:o.op = .binOp op t x y t') (hd:dstOk C o) {c:Prop} {z:AV} (h:w2 (ev ρ x) (ev ρ y) (aNilR C.P op t)=some (c,z)) (hc:c) :
  AOp C o ρ L fun ρ' L'=>ρ'=put ρ o.dst z∧L'=L:=by
 obtain⟨h1,h2,c',h3,h4⟩:=w2_inv h hc
 unfold aNilR at h3
 split at h3
 ·rename_i k xs e _ _ _ hx hy hti
  have hu:=tinfo_slice hti
  have main:∀(f:Bool→Bool),((op = .eql∧f=id)∨(op = .neq∧f=not))→xs ≠ []→z=ab (f false)→AOp C o ρ L fun ρ' L'=>ρ'=put ρ o.dst z∧L'=L:=fun f hf hne hz =>
   AOp.of_run (fun c e=>by rw[ho] at e;cases e) fun w0 M A0 a w A ds hs=>by
    have rx:=fo_ok (hs.ev x) h1;rw[hx] at rx
    have ry:=fo_ok (hs.ev y) h2;rw[hy] at ry
    have ry:=ry.inv_v
    have hval:∃a0 n m,a.eval x = .slice a0 n m∧a0.isNone=false:=by
     generalize a.eval x=u at rx
     cases rx with
     | sl0 _ a0 cap hc=>exact absurd rfl hne
     | sl _ _ b off cap=>exact⟨_,_,_,rfl,rfl⟩
    obtain⟨a0,n,m,e,hne⟩:=hval
    refine⟨_,w,?_,.inl ⟨.bool (f a0.isNone),rfl,_,_,⟨by rw[hz],rfl⟩,st_iff.2 ⟨A,ds,hs.put hd (by rw[hne];exact .v _)⟩⟩⟩
    unfold execOp
    rw[ho]
    rcases hf with ⟨rfl,rfl⟩|⟨rfl,rfl⟩
    ·simp [e,ry,eqGuard_slice,binOp,equal_slice_nil hu]
    ·simp [e,ry,eqGuard_slice,binOp,equal_slice_nil hu]
  split at h3
  ·cases h3;exact main id (.inl ⟨rfl,rfl⟩) h4 rfl
  ·cases h3;exact main not (.inr ⟨rfl,rfl⟩) h4 rfl
  ·cases h3
 ·cases h3
theorem avalR_sound {C:Cfg} {o:Oper} {ρ:Env} {L:AHeap} {c:Prop} {x:AV} (hv:avalR C.P ρ L o.op=some (c,x)) (hc:c) (hd:dstOk C o) (hdef:∀c,o.op ≠ .defer c):AOp C o ρ L fun ρ' L'=>ρ'=put ρ o.dst x∧L'=L:=by
 unfold avalR at hv
 split at hv
 ·rename_i z hz
  cases hv
  exact aval_sound hz hc hd hdef
 ·split at hv
  ·rename_i ho
   exact aNilR_sound ho hd hv hc
  ·cases hv
def YldL (C:Cfg) (ops:Array Oper) (i:Nat) (o:Oper) (x:AV) (ρ:Env) (L:AHeap):Prop :=
 ∀ρ',(∀t ∈ o.looksAt ops,get ρ' t=get ρ t)→GOp C ops i ρ' L fun ρ2 L2=>ρ2=put ρ' o.dst x∧L2=L
def aqL (C:Cfg) (all:List Oper) (o:Oper) (ρ:Env) (L:AHeap) (K:Env→Prop):Prop :=
 match o.guard with
 | none=>match avalR C.P ρ L o.op with
  | some (c,x)=>c∧K (put ρ o.dst x)
  | none=>match o.op with
   | .call c=>match c.callee with
    | .value g=>GCall C.P True ((fo (ev ρ g)).1∧fos (c.args.toList.map (ev ρ))) (fo (ev ρ g)).2 (c.args.toList.map fun x=>(fo (ev ρ x)).2) L (putQ K ρ o.dst)
    | _=>False
   | _=>False
 | some (j,want)=>match gval all ρ j want with
  | some b=>match avalR C.P ρ L o.op with
   | some (c,x)=>(b=want→c)∧K (put ρ o.dst (.cond (b == want) x))
   | none=>match o.op with
    | .call c=>match c.callee with
     | .value g=>GCall C.P (b=want) ((fo (ev ρ g)).1∧fos (c.args.toList.map (ev ρ))) (fo (ev ρ g)).2 (c.args.toList.map fun x=>(fo (ev ρ x)).2) L (putQC K ρ o.dst (b == want))
     | _=>b ≠ want∧K (put ρ o.dst (.cond (b == want) .any))
    | _=>b ≠ want∧K (put ρ o.dst (.cond (b == want) .any))
  | none=>False
def aqLRun (C:Cfg) (all:List Oper) (L:AHeap):List Nat→(Env→Prop)→Env→Prop
 | [],K,ρ=>K ρ
 | i :: r,K,ρ=>match all[i]? with
  | some o=>aqL C all o ρ L (aqLRun C all L r K)
  | none=>False
section
variable {C:Cfg} {ops:Array Oper} {L:AHeap}
theorem aqL_yields {i:Nat} {o:Oper} {ρ:Env} {K:Env→Prop} (hi:ops[i]?=some o) (hok:operOk C.N o=true) (h:aqL C ops.toList o ρ L K):∃x,YldL C ops i o x ρ L∧K (put ρ o.dst x):=by
 have hd:=operOk_dst hok
 have hdef:=operOk_def hok
 unfold aqL at h
 split at h
 ·rename_i hg
  split at h
  ·rename_i c x hv
   exact⟨x,fun ρ' hag=>AOp.gop hi hg (avalR_sound (by rw[avalR_congr (agree_ops hag)];exact hv) h.1 hd hdef),h.2⟩
  ·split at h
   ·rename_i cl ho
    split at h
    ·rename_i g h0
     obtain⟨r,h1,h2⟩:=h
     refine⟨r,fun ρ' hag=>AOp.gop hi hg ?_,h2⟩
     have hag':=agree_ops hag
     rw[ho] at hag'
     obtain⟨e1,e2,e3⟩:=call_congr h0 hag'
     exact call_sound ho h0 hd (by rw[e1,e2,e3];exact⟨(h1 trivial).1.1,(h1 trivial).1.2,(h1 trivial).2⟩)
    ·exact h.elim
   ·exact h.elim
 ·rename_i j want hg
  split at h
  ·rename_i b hv
   split at h
   ·rename_i c x ha
    refine⟨_,fun ρ' hag=>GOp.of_cond hi hg (by rw[agree_guard hag hg];exact hv) hd fun hb=>avalR_sound (by rw[avalR_congr (agree_ops hag)];exact ha) (h.1 hb) hd hdef,h.2⟩
   ·split at h
    ·rename_i cl ho
     split at h
     ·rename_i g h0
      obtain⟨r,h1,h2⟩:=h
      refine⟨_,fun ρ' hag=>GOp.of_cond hi hg (by rw[agree_guard hag hg];exact hv) hd fun hb => ?_,h2⟩
      have hag':=agree_ops hag
      rw[ho] at hag'
      obtain⟨e1,e2,e3⟩:=call_congr h0 hag'
      exact call_sound ho h0 hd (by rw[e1,e2,e3];exact⟨(h1 hb).1.1,(h1 hb).1.2,(h1 hb).2⟩)
     ·refine⟨_,fun ρ' hag=>GOp.of_cond hi hg (by rw[agree_guard hag hg];exact hv) hd fun hb=>absurd hb h.1,h.2⟩
    ·refine⟨_,fun ρ' hag=>GOp.of_cond hi hg (by rw[agree_guard hag hg];exact hv) hd fun hb=>absurd hb h.1,h.2⟩
  ·exact h.elim
def QFactL (C:Cfg) (ops:Array Oper) (ρ:Env) (L:AHeap) (q:Nat):Prop:=∃o x,ops[q]?=some o∧YldL C ops q o x ρ L∧∀d,o.dst=some d→get ρ d=x
theorem YldL.of_agree {i:Nat} {o:Oper} {x:AV} {ρ ρ':Env} (h:YldL C ops i o x ρ L) (he:∀t ∈ o.looksAt ops,get ρ' t=get ρ t):YldL C ops i o x ρ' L :=
 fun ρ2 hag=>h ρ2 fun t ht=>(hag t ht).trans (he t ht)
theorem aqLRun_facts {qs0:List Nat} (hm:mixOk ops qs0=true) (hok:ops.toList.all (operOk C.N)=true):∀(qs:List Nat) (ρ:Env) (K:Env→Prop),(∀q ∈ qs,q ∈ qs0)→ascend qs=true→aqLRun C ops.toList L qs K ρ →
  ∃ρq,K ρq∧(∀q ∈ qs,QFactL C ops ρq L q)∧∀s,(∀q ∈ qs,dstOf ops q ≠ some s)→get ρq s=get ρ s
 | [],ρ,K,_,_,h=>⟨ρ,h,fun q hq=>(by cases hq),fun _ _=>rfl⟩
 | i :: r,ρ,K,hsub,hasc,h=>by
  obtain⟨hlt,hasc'⟩:=ascend_cons hasc
  simp only[aqLRun] at h
  cases ho:ops.toList[i]? with
  | none=>rw[ho] at h;exact h.elim
  | some o =>
   rw[ho] at h
   have ho':ops[i]?=some o:=by simpa using ho
   obtain⟨x,hy,hK⟩:=aqL_yields ho' (List.all_eq_true.1 hok o (List.mem_of_getElem? ho)) h
   obtain⟨ρq,h1,h2,h3⟩:=aqLRun_facts hm hok r _ K (fun q hq=>hsub q (List.mem_cons_of_mem _ hq)) hasc' hK
   obtain⟨p1,p2,_⟩:=mix_at hm ho'
   have hself:∀d,o.dst=some d→d ∉ o.looksAt ops:=fun d hd hm'=>by
    have:=(p2 i (hsub i List.mem_cons_self) d (by simp [dstOf,ho',hd])).1 hm'
    exact absurd (p1 i this) (Nat.lt_irrefl i)
   refine⟨ρq,h1,fun q hq => ?_,fun s hs => ?_⟩
   ·rcases List.mem_cons.1 hq with rfl|hq
    ·refine⟨o,x,ho',hy.of_agree fun t ht => ?_,fun d hd => ?_⟩
     ·rw[h3 t fun q' hq' he => ?_,get_put,if_neg fun he=>hself t he ht]
      have:=(p2 q' (hsub q' (List.mem_cons_of_mem _ hq')) t he).1 ht
      have:=p1 q' this;have:=hlt q' hq';omega
     ·rw[h3 d fun q' hq' he => ?_,get_put,if_pos hd]
      exact(p2 q' (hsub q' (List.mem_cons_of_mem _ hq')) d he).2 (by have:=hlt q' hq';omega) hd
    ·exact h2 q hq
   ·rw[h3 s fun q hq=>hs q (List.mem_cons_of_mem _ hq),get_put,if_neg]
    have:=hs i List.mem_cons_self
    simpa [dstOf,ho'] using this
theorem read_sound {qs:List Nat} (hm:mixOk ops qs=true) (hall:∀i,i<ops.size→i ∈ qs) {K:ARes} {n:Nat} {w0:World} {M A0:Foot} {Q:Exit→Act→World→Prop} (hQ:∀a w,post w0 M A0 C.N K a w→Q .normal a w) {ρT:Env} (hK:K ρT L) :
  ∀(f:Nat) (listed:Array Bool) (a:Act) (w:World),listed.size=ops.size →
   (∀l:List Nat,l.Nodup→(∀i ∈ l,listed.getD i true=false)→l.length≤f) →
   (∀q ∈ qs,listed.getD q true=false→QFactL C ops ρT L q)→St w0 M A0 C.N (mask ops qs listed ρT) L a w →
   wpAnyIn (Fw C.r) n C.P .any ops Q f listed a w:=by
 have fin:∀(listed:Array Bool) (a:Act) (w:World),listed.size=ops.size→St w0 M A0 C.N (mask ops qs listed ρT) L a w→Region.ready .any ops listed=[]→Q .normal a w:=by
  intro listed a w hsz hs hr
  have all:∀i,listed.getD i true=true:=by
   intro i
   induction i using Nat.strongRecOn with
   | _ i ih =>
    cases hi:listed.getD i true with
    | true=>rfl
    | false =>
     exfalso
     have hlt:i<ops.size:=by
      rw[← hsz]
      by_cases h:i<listed.size
      ·exact h
      ·simp [Array.getD,h] at hi
     have ho:ops[i]?=some ops[i]:=Array.getElem?_eq_getElem hlt
     have:i ∈ Region.ready .any ops listed:=mem_ready.2 ⟨hi,_,ho,fun e he hb=>by
      have hp:=(mix_at hm ho).1 e.on (List.mem_map.2 ⟨e,List.mem_filter.2 ⟨by simpa using he,hb⟩,rfl⟩)
      exact getD_ft (by omega) (ih _ hp)⟩
     rw[hr] at this;cases this
  refine hQ a w ⟨ρT,L,hK,st_forget hs fun i => .inr ?_⟩
  rw[mask_out fun q _ hl=>by rw[all q] at hl;cases hl]
 intro f
 induction f with
 | zero =>
  intro listed a w hsz hcnt hfact hs
  have hr:Region.ready .any ops listed=[]:=by
   cases hh:Region.ready .any ops listed with
   | nil=>rfl
   | cons j r =>
    have hj:j ∈ Region.ready .any ops listed:=by rw[hh];exact List.mem_cons_self
    have:=hcnt [j] (by simp) (fun i hi=>by simp at hi;subst hi;exact(mem_ready.1 hj).1)
    simp at this
  exact⟨hr,fin listed a w hsz hs hr⟩
 | succ f ih =>
  intro listed a w hsz hcnt hfact hs
  refine⟨fin listed a w hsz hs,fun i hi => ?_⟩
  obtain⟨hun,o,ho,hpre⟩:=mem_ready.1 hi
  have hlt:i<ops.size:=(Array.getElem?_eq_some_iff.1 ho).1
  obtain⟨m1,m2,m3⟩:=mix_at hm ho
  have hlooks:∀t ∈ o.looksAt ops,get (mask ops qs listed ρT) t=get ρT t:=fun t ht=>mask_out fun q hq hl hd=>by
   have hp:=(m2 q hq t hd).1 ht
   obtain⟨e,he,rfl⟩:=List.mem_map.1 hp
   obtain⟨he1,he2⟩:=List.mem_filter.1 he
   have:=getD_tf (hpre e (by simpa using he1) he2)
   rw[hl] at this;cases this
  have hcnt':∀l:List Nat,l.Nodup→(∀j ∈ l,(listed.setIfInBounds i true).getD j true=false)→l.length≤f:=fun l hn hl=>by
   have hil:i ∉ l:=fun h=>by
    have:=hl i h
    simp [Array.getD,show i<listed.size by omega] at this
   have:=hcnt (i :: l) (List.nodup_cons.2 ⟨hil,hn⟩) (fun j hj=>by
    rcases List.mem_cons.1 hj with rfl|hj
    ·exact hun
    ·have:=hl j hj
     have hne:i ≠ j:=fun e=>hil (e ▸ hj)
     rwa [getD_set_ne true hne] at this)
   simp at this;omega
  have hset:∀j,j ≠ i→(listed.setIfInBounds i true).getD j true=listed.getD j true:=fun j hj=>getD_set_ne true (Ne.symm hj)
  have hq:=hall i hlt
  obtain⟨o',x,ho',hy,hgx⟩:=hfact i hq hun
  rw[ho] at ho';cases ho'
  refine wpOpIn_mono ?_ (hy _ hlooks n w0 M A0 a w Q hs)
  rintro a' w' ⟨ρ2,L2,⟨rfl,rfl⟩,hs2⟩
  refine ih _ a' w' (by simpa using hsz) hcnt' (fun q hq' hl=>hfact q hq' (by
   by_cases e:q=i
   ·subst e;exact hun
   ·rwa [hset q e] at hl)) (st_forget hs2 fun s => ?_)
  rcases mask_or (ops:=ops) qs (listed.setIfInBounds i true) ρT s with ⟨h1,_⟩|⟨h1,h2⟩
  ·exact .inl h1
  ·refine .inr ?_
   rw[h1,get_put]
   by_cases hd:o.dst=some s
   ·rw[if_pos hd];exact hgx s hd
   ·rw[if_neg hd,mask_out fun q hq' hl hds => ?_]
    by_cases e:q=i
    ·subst e;exact hd (by simpa [dstOf,ho] using hds)
    ·exact h2 q hq' (by rw[hset q e];exact hl) hds
end
def readAll (ops:Array Oper) (qs:List Nat):Bool:=mixOk ops qs && (List.range ops.size).all fun i=>qs.contains i
def readK (K:ARes) (L:AHeap) (ρ:Env):Prop:=K ρ L
theorem AWp.read {C:Cfg} {id:Nat} {ops:Array Oper} {Q:AQ} {ρ:Env} {L:AHeap} (hmx:C.P.follows .mixedOrders=true) (qs:List Nat) (hT:readAll ops qs=true) (h:aqLRun C ops.toList L qs (readK (Q .normal) L) ρ) :
  AWp C (.region id ops true) Q ρ L:=fun hok n w0 M A0 a w hs=>by
 simp only[readAll,Bool.and_eq_true,List.all_eq_true,List.contains_eq_mem,decide_eq_true_eq] at hT
 obtain⟨hm,hal⟩:=hT
 have hasc:=mix_asc hm
 obtain⟨ρq,hK,hF,hother⟩:=aqLRun_facts hm hok qs ρ _ (fun _ h=>h) hasc.1 h
 refine wpIn_region_any hmx ?_
 obtain⟨A,ds,hs'⟩:=st_iff.1 hs
 refine read_sound hm (fun i hi=>hal i (List.mem_range.2 hi)) (K:=Q .normal) (fun a w ⟨ρ',L',h1,h2⟩=>⟨ρ',L',h1,h2⟩) hK ops.size _ a _ (by simp) ?_ (fun q hq _=>hF q hq) (st_forget (st_iff.2 ⟨A,ds,hs'.drew⟩) fun s => ?_)
 ·intro l hn hl
  have:=List.Nodup.length_le_of_subset hn (l₂:=List.range ops.size) (fun i hi=>by
   have:=hl i hi
   rw[List.mem_range]
   by_cases h:i<ops.size
   ·exact h
   ·simp [Array.getD,h] at this)
  simpa using this
 ·rcases mask_or (ops:=ops) qs (Array.replicate ops.size false) ρq s with ⟨h1,_⟩|⟨h1,h2⟩
  ·exact .inl h1
  ·refine .inr ?_
   rw[h1]
   exact hother s fun q hq hd=>h2 q hq (by simp [Array.getD,hasc.2 q hq]) hd
theorem aqLRun_nil (C:Cfg) (all:List Oper) (L:AHeap) (K:Env→Prop) (ρ:Env):aqLRun C all L [] K ρ=K ρ:=rfl
theorem aqLRun_cons (C:Cfg) (all:List Oper) (L:AHeap) (i:Nat) (r:List Nat) (K:Env→Prop) (ρ:Env):aqLRun C all L (i :: r) K ρ=(match all[i]? with|some o=>aqL C all o ρ L (aqLRun C all L r K)|none=>False):=rfl
attribute [go_sem] aqLRun_nil aqLRun_cons aqL readK avalR aNilR
end Go.AL
end
