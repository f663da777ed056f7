/- Texts of this claim's proof: AlBr3, AlBr4, AlSrt, WLsf, WCx, AlCutf, AlRed, WCf, WBd, WCl, WRe, WLo, WLp, WLq, WNd, WBs. No condition. -/
import Derived.Test.YtkkcgocdmaodbaaGreatDoorM9
import Derived.Lib.LaidTab
import Derived.Shelf.SlSortCmp.Whole1
import Derived.Test.YtkkcgocdmaodbaaGreatDoorProg
import Derived.Shelf.SlGeneric
import Derived.Test.YtkkcgocdmaodbaaGreatDoorM6
import Derived.Test.YtkkcgocdmaodbaaGreatDoorM4
section
namespace Go.AL
open Go Go.RowKit Go.ChangeShapes Go.WideShapes Go.ChangeAt
def RdF {H:Type} (enc:TypeId × Value→H) (P:Program) (W:World) (N:Nat) (t:TypeId) (k:Nat) {α:Type} (E:α→AV) (ok:α→Prop):Prop :=
 ∀fuel cs x,fuel≤N→DataW.trod enc P W 0 (fun _=>true) true fuel t cs=some x→∃y,ok y∧elOk k (E y)∧cs.length=k∧∀(i:Nat) c u,(E y).cells[i]?=some c→cs[i]?=some u→Rel W (fun b=>b<W.heap.size) c u
section
variable {H:Type} {enc:TypeId × Value→H} {P:Program} {W:World} {t:TypeId}
theorem Rd.bounded {α:Type} {k:Nat} {E:α→AV} {ok:α→Prop} (h:Rd enc P W t k E ok) (N:Nat):RdF enc P W N t k E ok:=fun fuel cs x _ hx=>h fuel cs x hx
theorem RdF.all {α:Type} {k:Nat} {E:α→AV} {ok:α→Prop} (h:∀N,RdF enc P W N t k E ok):Rd enc P W t k E ok:=fun fuel cs x hx=>h fuel fuel cs x (Nat.le_refl _) hx
theorem RdF.mono {α:Type} {k:Nat} {E:α→AV} {ok:α→Prop} {N M:Nat} (h:RdF enc P W N t k E ok) (hM:M≤N):RdF enc P W M t k E ok:=fun fuel cs x hf hx=>h fuel cs x (by omega) hx
theorem RdF.zero {α:Type} {k:Nat} {E:α→AV} {ok:α→Prop} : RdF enc P W 0 t k E ok:=fun fuel cs x hf hx=>by
 obtain rfl:fuel=0:=by omega
 simp [DataW.trod] at hx
theorem RdF.map {α β:Type} {k:Nat} {N:Nat} {E:α→AV} {E':β→AV} {ok:α→Prop} {ok':β→Prop} (f:α→β) (hE:∀y,E y=E' (f y)) (hok:∀y,ok y→ok' (f y)) (h:RdF enc P W N t k E ok):RdF enc P W N t k E' ok':=by
 intro fuel cs x hN hx
 obtain⟨y,k1,k2,k3,k4⟩:=h fuel cs x hN hx
 exact⟨f y,hok y k1,by rw[← hE];exact k2,k3,by rw[← hE];exact k4⟩
theorem RdF.slice {N:Nat} {α:Type} {E:α→AV} {ok:α→Prop} {e:TypeId} {k:Nat} (ht:P.underlying t=some (.slice e)) (hk:P.cellsOf e=k) (h0:0<k) (he:RdF enc P W N e k E ok) :
  RdF enc P W (N+1) t 1 (fun l:List α => .sl k (l.map E)) (fun l=>l.length≤maxLen∧∀y ∈ l,ok y):=by
 intro fuel cs x hN h
 rcases DataW.trod_slice ht h with ⟨rfl,_⟩|⟨a,len,cap,elems,rest,n,hfu,rfl,_,_,hl,hm,hlen,hel,_,_⟩
 ·refine⟨[],⟨by simp,by simp⟩,⟨rfl,rfl⟩,rfl,fun i c u h1 h2 => ?_⟩
  cases i with
  | zero=>cases h1;cases h2;exact .sl0 k none 0 (by simp)
  | succ i=>cases h2
 ·rw[hk] at hel
  obtain⟨l,hll,hli⟩:=ofFin (len:=len) (Q:=fun i y=>∃cs:List Value,ok y∧elOk k (E y)∧cs.length=k∧(∀m,m<k→W.cell? ((a.add (i * k)).add m)=cs[m]?)∧∀(m:Nat) c u,(E y).cells[m]?=some c→cs[m]?=some u→Rel W (fun b=>b<W.heap.size) c u) fun i hi=>by
   have h1:=hel i hi
   rw[List.getElem?_eq_getElem (by omega),Option.bind_eq_some_iff] at h1
   obtain⟨cs,hc,ht⟩:=h1
   obtain⟨y,k1,k2,k3,k4⟩:=he _ _ _ (by omega) ht
   exact⟨y,cs,k1,k2,k3,(World.cells?_some hc).2.2,k4⟩
  refine⟨l,⟨by omega,fun y hy => ?_⟩,⟨rfl,rfl⟩,rfl,fun i c u h1 h2 => ?_⟩
  ·obtain⟨i,hi,rfl⟩:=List.getElem_of_mem hy
   obtain⟨_,h,_⟩:=hli i (by omega);exact h
  ·cases i with
   | succ i=>cases h2
   | zero =>
    cases h1;cases h2
    by_cases hz:len=0
    ·subst hz
     rw[List.length_eq_zero_iff.1 hll]
     exact .sl0 k _ cap hm
    ·obtain⟨b,off,spot⟩:=a
     obtain⟨cs0,_,_,c3,c4,_⟩:=hli 0 (by omega)
     have hs:spot=none:=by
      have:=c4 0 h0
      have e0:∀a:Addr,a.add 0=a:=fun _=>rfl
      rw[Nat.zero_mul,e0,e0,List.getElem?_eq_getElem (by omega)] at this
      cases spot with
      | none=>rfl
      | some s =>
       exfalso
       unfold World.cell? at this
       split at this
       ·rw[if_pos (show (some s).isSome=true from rfl)] at this;cases this
       ·cases this
     subst hs
     have cell:∀(i:Nat) (hi:i<len) (m:Nat),m<k→∃u,W.cell? ⟨b,off+(i * k+m),none⟩=some u∧∀c,(E (l[i]'(by omega))).cells[m]?=some c→Rel W (fun b=>b<W.heap.size) c u:=fun i hi m hm=>by
      obtain⟨cs,_,_,c3,c4,c5⟩:=hli i (by omega)
      have:=c4 m hm
      rw[add_none,add_none,Nat.add_assoc,List.getElem?_eq_getElem (by omega)] at this
      exact⟨_,this,fun c hc=>c5 m c _ hc (List.getElem?_eq_getElem (by omega))⟩
     have hA:b<W.heap.size:=by
      obtain⟨u,hu,_⟩:=cell 0 (by omega) 0 h0
      unfold World.cell? at hu
      cases hb:W.heap[b]? with
      | none=>simp [hb] at hu
      | some o=>exact(Array.getElem?_eq_some_iff.1 hb).1
     have:=Rel.sl (w:=W) (A:=fun b=>b<W.heap.size) k (l.map E) b off cap (fun j=>(W.cell? ⟨b,off+j,none⟩).getD undef) hA (by rw[List.length_map];omega) hm
      (fun x hx=>by
       obtain⟨y,hy,rfl⟩:=List.mem_map.1 hx
       obtain⟨i,hi,rfl⟩:=List.getElem_of_mem hy
       obtain⟨cs,_,c2,_⟩:=hli i (by omega)
       exact c2)
      (fun j hj=>by
       rw[List.length_map,hll] at hj
       have h1:j / k<len:=(Nat.div_lt_iff_lt_mul h0).2 hj
       obtain⟨u,hu,_⟩:=cell (j / k) h1 (j % k) (Nat.mod_lt _ h0)
       have e:j / k * k+j % k=j:=Nat.div_add_mod' j k
       rw[e] at hu
       rw[hu];rfl)
      (fun i x j y hx hy=>by
       rw[List.getElem?_map,Option.map_eq_some_iff] at hx
       obtain⟨z,hz,rfl⟩:=hx
       obtain⟨hi,rfl⟩:=List.getElem?_eq_some_iff.1 hz
       obtain⟨cs,_,c2,_⟩:=hli i (by omega)
       have hj:j<k:=by have:=(List.getElem?_eq_some_iff.1 hy).1;have:=c2.1;omega
       obtain⟨u,hu,hr⟩:=cell i (by omega) j hj
       rw[hu]
       exact hr _ hy)
     rw[List.length_map,hll] at this
     exact this
def RdFL (enc:TypeId × Value→H) (P:Program) (W:World) (N:Nat) (ts:List TypeId) {α:Type} (E:α→List AV) (ok:α→Prop):Prop :=
 ∀(n:Nat) (cs:List Value) (xs:List (DataW H × List MemPlace)),n≤N→xs.length=ts.length→cs.length=ts.length →
  (∀(i:Nat) t,ts[i]?=some t→DataW.trod enc P W 0 (fun _=>true) true n t ((cs.drop i).take 1)=xs[i]?) →
  ∃y,ok y∧(E y).length=ts.length∧(E y).all one=true∧∀(i:Nat) c u,(E y)[i]?=some c→cs[i]?=some u→Rel W (fun b=>b<W.heap.size) c u
theorem RdFL.nil {N:Nat} : RdFL enc P W N [] (fun _:Unit=>[]) (fun _=>True):=by
 intro n cs xs _ _ _ _
 exact⟨(),trivial,rfl,rfl,fun i c u h=>by simp at h⟩
theorem RdFL.cons {N:Nat} {α β:Type} {E:α→AV} {ok:α→Prop} {ts:List TypeId} {F:β→List AV} {ok':β→Prop} (h:RdF enc P W N t 1 E ok) (h1:∀y,one (E y)=true∧(E y).cells=[E y]) (hs:RdFL enc P W N ts F ok') :
  RdFL enc P W N (t :: ts) (fun y:α × β=>E y.1 :: F y.2) (fun y=>ok y.1∧ok' y.2):=by
 intro n cs xs hN hx hc hi
 match xs,cs,hx,hc with
 | x :: xs,u :: cs,hx,hc =>
  have h0:=hi 0 t rfl
  simp only[List.drop_zero,List.take_succ_cons,List.take_zero,List.getElem?_cons_zero] at h0
  obtain⟨y,k1,_,_,k4⟩:=h _ _ _ hN h0
  obtain⟨z,g1,g2,g3,g4⟩:=hs n cs xs hN (by simpa using hx) (by simpa using hc) fun i t' ht=>by
   have:=hi (i+1) t' (by simpa using ht)
   simpa using this
  refine⟨(y,z),⟨k1,g1⟩,by simp [g2],by simp [g3,(h1 y).1],fun i c u' hcc hu => ?_⟩
  cases i with
  | zero=>cases hcc;cases hu;exact k4 0 _ _ (by rw[(h1 y).2];rfl) rfl
  | succ i=>exact g4 i c u' (by simpa using hcc) (by simpa using hu)
theorem RdF.struct {N:Nat} {fs:Array Field} {α:Type} {ts:List TypeId} {F:α→List AV} {ok:α→Prop} (ht:P.underlying t=some (.struct fs)) (hts:fs.toList.map (·.type)=ts) (hof:fs.toList.map (·.offset)=List.range ts.length) (hk:P.cellsOf t=ts.length)
  (hc:(ts.all fun t=>P.cellsOf t == 1)=true) (h:RdFL enc P W N ts F ok):RdF enc P W (N+1) t ts.length (fun y => .agg (F y)) ok:=by
 intro fuel cs x hN hx
 obtain⟨xs,n,hfu,_,hl,hlen,hf⟩:=DataW.trod_struct ht hx
 have hfl:fs.size=ts.length:=by rw[← hts];simp
 obtain⟨y,k1,k2,k3,k4⟩:=h n cs xs (by omega) (by omega) (by omega) fun i t' ht'=>by
  have hi:i<ts.length:=(List.getElem?_eq_some_iff.1 ht').1
  have hg:fs[i]?=some fs[i]:=Array.getElem?_eq_getElem (by omega)
  have e1:(fs[i]).type=t':=by
   rw[← hts,List.getElem?_map,Array.getElem?_toList,hg] at ht'
   exact Option.some.inj ht'
  have e2:(fs[i]).offset=i:=by
   have:(fs.toList.map (·.offset))[i]?=some i:=by rw[hof,List.getElem?_range hi]
   rw[List.getElem?_map,Array.getElem?_toList,hg] at this
   exact Option.some.inj this
  have:=hf i _ hg
  have hct:P.cellsOf t'=1:=by
   have:=List.all_eq_true.1 hc _ (List.mem_of_getElem? ht')
   simpa using this
  rw[e1,e2,hct] at this
  exact this
 exact⟨y,k1,⟨k2,k3⟩,by omega,k4⟩
end
end Go.AL
end
section
namespace Go.AL
open Go Go.RowKit
theorem Rel.tabK {P:Program} {W:World} {name:String} {k:IntKind} {zs:List Int} {g:Nat} (h:Lib.TabIs P W name k zs) (hg:P.globalNamed name=some g) (hz:0<zs.length) :
  Rel W (fun b=>b<W.heap.size) (.rp 1 (zs.map fun z => .v (.int k z)) 0 0) (.pointer (some ⟨g,0,none⟩)):=by
 have hA:g<W.heap.size:=by
  have hu:=h.cell hg 0 hz
  unfold World.cell? at hu
  cases hb:W.heap[g]? with
  | none=>simp [hb] at hu
  | some o=>exact(Array.getElem?_eq_some_iff.1 hb).1
 have:=Rel.rp (w:=W) (A:=fun b=>b<W.heap.size) 1 (zs.map fun z => .v (.int k z)) 0 0 g 0 (fun i => .int k (zs.getD i 0)) hA
  (fun x hx=>by obtain⟨z,_,rfl⟩:=List.mem_map.1 hx;exact⟨rfl,rfl⟩)
  (fun i hi=>by
   rw[List.length_map] at hi
   have:=h.cell hg i (by omega)
   simpa using this)
  (fun i x j y hx hy=>by
   rw[List.getElem?_map,Option.map_eq_some_iff] at hx
   obtain⟨z,hz,rfl⟩:=hx
   cases j with
   | succ j=>cases hy
   | zero =>
    cases hy
    have e:zs.getD i 0=z:=by rw[List.getD_eq_getElem?_getD,hz];rfl
    simp only[Nat.mul_one,Nat.add_zero,e]
    exact .v _)
 exact this
end Go.AL
end
section
namespace Go.AL
open Go Go.RowKit Go.Lib Go.Sort Go.Proofs Go.Shelf
structure Item (w:World) (A:Foot) {β:Type} (av:β→AV) (Q:β→Prop) where
 u:Value
 x:β
 rel:Rel w A (av x) u
 ok:Q x
theorem items {w:World} {A:Foot} {β:Type} {av:β→AV} {Q:β→Prop} : ∀(xs:List β) (us:List Value),us.length=xs.length →
  (∀(i:Nat) x u,xs[i]?=some x→us[i]?=some u→Rel w A (av x) u∧Q x)→∃d:List (Item w A av Q),d.map (·.x)=xs∧d.map (·.u)=us
 | [],us,hl,_=>⟨[],rfl,(List.eq_nil_of_length_eq_zero hl).symm⟩
 | x :: xs,[],hl,_=>by simp at hl
 | x :: xs,u :: us,hl,h=>by
  obtain⟨d,h1,h2⟩:=items xs us (by simpa using hl) fun i y v hy hv=>h (i+1) y v (by simpa using hy) (by simpa using hv)
  have h0:=h 0 x u rfl rfl
  exact⟨⟨u,x,h0.1,h0.2⟩ :: d,by simp [h1],by simp [h2]⟩
theorem grow_of_Fr {w w':World} {M:Foot} (h:Fr w M w') (hM:∀b,¬M b):∃q os,w'=grow (w.drewN q) os:=by
 refine⟨w'.drawn - w.drawn,w'.heap.extract w.heap.size w'.heap.size,?_⟩
 have hh:w'.heap=w.heap ++ w'.heap.extract w.heap.size w'.heap.size:=by
  apply Array.ext_getElem?
  intro k
  by_cases hk:k<w.heap.size
  ·rw[Array.getElem?_append_left hk];exact h.block k hk (hM k)
  ·rw[Array.getElem?_append_right (by omega),Array.getElem?_extract]
   have:=h.size
   by_cases hk2:k<w'.heap.size
   ·rw[if_pos (by omega)];congr 1;omega
   ·rw[if_neg (by omega)];exact Array.getElem?_eq_none (by omega)
 have hd:=h.drawn
 obtain⟨heap,tape,drawn,os,out⟩:=w'
 simp only[grow,World.drewN,World.mk.injEq]
 exact⟨hh,h.tape,by simp only at hd ⊢;omega,h.os,h.output⟩
theorem sortWorld_heap_ne {α:Type} [Inhabited α] (enc:α→Value) (w:World) (b o m:Nat) (d:Array α) (os:Array Obj) {k:Nat} (hk:k<w.heap.size) (hb:k ≠ b) :
  (sortWorld enc w b o m d os).heap[k]?=w.heap[k]?:=by
 simp only[sortWorld,grow,putRow,mapBlock,Sort.ahead]
 rw[Array.getElem?_append_left (by simpa using hk),Array.getElem?_modify,if_neg (fun e=>hb e.symm)]
theorem sortWorld_heap_eq {α:Type} [Inhabited α] (enc:α→Value) (w:World) (b o m:Nat) (d:Array α) (os:Array Obj) {c:Array Value} {t:TypeId} {fr:Nat × Nat} (h:w.heap[b]?=some (.cells c t fr)) :
  (sortWorld enc w b o m d os).heap[b]?=some (.cells (putCells enc o d c) t fr):=by
 have hk:b<w.heap.size:=(Array.getElem?_eq_some_iff.1 h).1
 simp only[sortWorld,grow,putRow,mapBlock,Sort.ahead]
 rw[Array.getElem?_append_left (by simpa using hk),Array.getElem?_modify,if_pos rfl,h]
 rfl
theorem sortWorld_size {α:Type} [Inhabited α] (enc:α→Value) (w:World) (b o m:Nat) (d:Array α) (os:Array Obj):w.heap.size≤(sortWorld enc w b o m d os).heap.size:=by
 simp only[sortWorld,grow,putRow,mapBlock,Sort.ahead,Array.size_append,Array.size_modify];omega
theorem sort_calls {P:Program} {ρ:Ren} (S:SlLaysF.n6 P ρ) {g:Nat} {t:TypeId} {β:Type} (av:β→AV) (Q:β→Prop) (dflt:β) (hQ:Q dflt) (hd:∀w A,∃u,Rel w A (av dflt) u)
  (ho:∀x,Q x→one (av x)=true) (cf:β→β→Int) (hS:SWO (ltOf cf)) (hc:∀x y,Q x→Q y→PC P g [av x,av y] (.v (.int .i64 (cf x y)))) (b cap:Nat) (xs:List β) (hx:∀x ∈ xs,Q x)
  (hlen:xs.length<4611686018427387904) :
  MCalls P (ρ.f 6) [.ls b 1 0 xs.length cap,.v (.func (.func g) #[] #[])] [(b,.row t 1 (xs.map av) cap)]
   fun r L'=>r = .tup []∧∃ys:List β,ys.Perm xs∧ys.Pairwise (fun x y=>¬cf y x<0)∧L'=[(b,.row t 1 (ys.map av) cap)]:=by
 refine⟨S.f6.enters rfl,fun n w A vs hL hv=>callsIn_wide.2 ?_⟩
 obtain⟨u1,vs1,rfl,r1,hv⟩:=hv.inv_cons
 obtain⟨u2,vs2,rfl,r2,hv⟩:=hv.inv_cons
 obtain rfl:=hv.inv_nil
 cases r2
 cases r1 with
 | ls _ _ _ _ _ o hl hcm hoo =>
 have hb:=hL.blk (b,.row t 1 (xs.map av) cap) List.mem_cons_self
 have hblk:=hb.lt
 have hnA:=hL.disj (b,.row t 1 (xs.map av) cap) List.mem_cons_self
 obtain⟨c,b1,b2,b3,b4,b5,b6⟩:=hb
 simp only[Nat.mul_one,List.length_map] at b2 b3 hblk hnA
 have o0:xs.length=0∨o=0:=by rcases hoo with h|h <;> omega
 obtain⟨d,d1,d2⟩:=items (w:=w) (A:=A) (av:=av) (Q:=Q) xs (c.toList.take xs.length) (by simp;omega) fun i x u hi hu=>by
  have hlt:i<xs.length:=(List.getElem?_eq_some_iff.1 hi).1
  have hq:Q x:=hx x (List.mem_of_getElem? hi)
  rw[List.getElem?_take_of_lt hlt,Array.getElem?_toList] at hu
  exact⟨b6 i (av x) 0 (av x) u (by simp [hi]) (by rw[one_cells (ho x hq)];rfl) (by simpa using hu),hq⟩
 have dl:d.length=xs.length:=by have:=congrArg List.length d1;simpa using this
 obtain⟨ud,hud⟩:=hd w A
 haveI:Inhabited (Item w A av Q):=⟨⟨ud,dflt,hud,hQ⟩⟩
 let enc:Item w A av Q→Value:=fun i=>i.u
 let cf':Item w A av Q→Item w A av Q→Int:=fun i j=>cf i.x j.x
 have hS':SWO (ltOf cf'):=⟨fun x=>hS.irrefl x.x,fun x y z=>hS.trans x.x y.x z.x,fun x y z=>hS.ntrans x.x y.x z.x⟩
 have hH:Holds enc w b o d.toArray:=fun j hj=>by
  have hj':j<xs.length:=by simpa [dl] using hj
  have ho0:o=0:=by omega
  subst ho0
  have e1:(c.toList.take xs.length)[j]?=some (enc d[j]!):=by
   rw[← d2,List.getElem?_map,getElem!_pos d j (by omega),List.getElem?_eq_getElem (by omega)];rfl
  rw[List.getElem?_take_of_lt hj',Array.getElem?_toList] at e1
  refine⟨?_,?_⟩
  ·simp only[World.cell?,b1,Nat.zero_add,Option.isSome_none,Bool.false_eq_true,if_false]
   simpa using e1
  ·simp [World.frozen?,b1]
 have eg:∀args w,(callFunc g args).run P w = .ok (.enter g args) w:=(hc dflt dflt hQ hQ).1
 have hcmp:CmpLays1 P g #[] enc cf' b o d.toArray.size w:=fun m os dk hdk x y=>by
  have keep:∀k,A k→(sortWorld enc w b o m dk os).heap[k]?=w.heap[k]?:=fun k hk=>sortWorld_heap_ne enc w b o m dk os (hL.abnd k hk) (fun e=>hnA (e ▸ hk))
  have hL':LRel (sortWorld enc w b o m dk os) A []:=⟨fun k hk=>Nat.lt_of_lt_of_le (hL.abnd k hk) (sortWorld_size ..),(fun _ h=>nomatch h),by simp,(fun _ h=>nomatch h),hL.globL keep fun _ h=>h⟩
  have hr:Rels (sortWorld enc w b o m dk os) A [av x.x,av y.x] [x.u,y.u]:=.cons (x.rel.later keep fun _ h=>h) (.cons (y.rel.later keep fun _ h=>h) .nil)
  have h:=callsIn_wide.1 ((hc x.x y.x x.ok y.ok).2 0 _ A _ hL' hr)
  refine Calls.mono h ?_
  rintro e w' ⟨v,r,L',A',rfl,⟨rfl,rfl⟩,hf,_,_,_,hrv⟩
  cases hrv
  exact⟨rfl,grow_of_Fr hf fun k ⟨_,hk,_⟩=>by cases hk⟩
 have h1:OneCell enc:=fun i=>one_ok i.rel (ho i.x i.ok)
 have main:=Any.slices_SortFunc S enc h1 cf' hS' g #[] b o cap d.toArray w eg hcmp hH hblk (by simpa [dl] using hlen)
 rw[show d.toArray.size=xs.length by simp [dl]] at main
 refine Calls.mono main ?_
 rintro e w' ⟨rfl,d',n',os,hp,hs,rfl⟩
 have sz:d'.size=xs.length:=by rw[hp.1];simp [dl]
 have keep:∀k,A k→(sortWorld enc w b o n' d' os).heap[k]?=w.heap[k]?:=fun k hk=>sortWorld_heap_ne enc w b o n' d' os (hL.abnd k hk) (fun e=>hnA (e ▸ hk))
 refine⟨_,.tup [],[(b,.row t 1 ((d'.toList.map (·.x)).map av) cap)],A,rfl,⟨rfl,d'.toList.map (·.x),?_,?_,rfl⟩,⟨rfl,rfl,rfl,sortWorld_size ..,fun k hk hn => ?_,by simp [sortWorld,grow,putRow,mapBlock,Sort.ahead]⟩,fun _ h => .inl h,?_,fun x hx => .inl ?_,.tup [] #[] rfl (by simp)⟩
 ·have:=hp.2.2
  rw[show d'.extract 0 xs.length=d' by rw[← sz];exact Array.extract_size ..,show d.toArray.extract 0 xs.length=d.toArray by rw[← dl];simp] at this
  have:=this.map (fun i:Item w A av Q=>i.x)
  simpa [d1] using this
 ·rw[List.pairwise_map,List.pairwise_iff_getElem]
  intro i j hi hj hij
  have hi':i<d'.size:=by simpa using hi
  have hj':j<d'.size:=by simpa using hj
  have:=hs i j (Nat.zero_le _) hij (by omega)
  rw[getElem!_pos d' i hi',getElem!_pos d' j hj'] at this
  simpa [ltOf,cf'] using this
 ·exact sortWorld_heap_ne _ _ _ _ _ _ _ hk fun e=>hn ⟨_,List.mem_cons_self,e.symm⟩
 ·have hb':=sortWorld_heap_eq enc w b o n' d' os b1
  refine⟨fun k hk=>Nat.lt_of_lt_of_le (hL.abnd k hk) (sortWorld_size ..),fun x hx => ?_,by simp,fun x hx => ?_,hL.globL keep fun _ h=>h⟩
  ·obtain rfl:=List.mem_singleton.1 hx;exact hnA
  ·obtain rfl:=List.mem_singleton.1 hx
   refine⟨_,hb',by simp [putCells,b2],by simp [sz];omega,b4,fun y hy => ?_,fun i x j y u hi hj hu => ?_⟩
   ·simp only[List.map_map,List.mem_map] at hy
    obtain⟨it,_,rfl⟩:=hy
    have h1:=ho it.x it.ok
    exact⟨by simp [one_cells h1],by revert h1;simp only[Function.comp];cases av it.x <;> simp [one,okv]⟩
   ·simp only[List.map_map,List.getElem?_map,Option.map_eq_some_iff] at hi
    obtain⟨it,hit,rfl⟩:=hi
    have h1:=ho it.x it.ok
    simp only[Function.comp,one_cells h1] at hj
    have hj0:j=0:=by have:=(List.getElem?_eq_some_iff.1 hj).1;simpa using this
    subst hj0
    simp only[List.getElem?_cons_zero,Option.some.injEq] at hj
    subst hj
    have hi2:i<d'.size:=by have:=(List.getElem?_eq_some_iff.1 hit).1;simpa using this
    have o0':o=0:=by omega
    subst o0'
    simp only[Nat.mul_one,Nat.add_zero,putCells,Array.getElem?_mapIdx,Option.map_eq_some_iff] at hu
    obtain⟨v0,_,hu⟩:=hu
    rw[if_pos (by omega)] at hu
    have e2:d'[i - 0]! = it:=by
     rw[Nat.sub_zero,getElem!_pos d' i hi2]
     have:=(List.getElem?_eq_some_iff.1 hit).2
     simpa using this
    rw[e2] at hu
    subst hu
    exact it.rel.later keep fun _ h=>h
 ·obtain rfl:=List.mem_singleton.1 hx;exact⟨_,List.mem_cons_self,rfl⟩
def sortBy {β:Type} (cf:β→β→Int) (xs:List β):List β:=xs.mergeSort fun x y=>decide (¬cf y x<0)
theorem sortBy_perm {β:Type} (cf:β→β→Int) (xs:List β):(sortBy cf xs).Perm xs:=List.mergeSort_perm _ _
theorem sortBy_pair {β:Type} {cf:β→β→Int} (hS:SWO (ltOf cf)) (xs:List β):(sortBy cf xs).Pairwise fun x y=>¬cf y x<0:=by
 have h:=List.pairwise_mergeSort (le:=fun x y:β=>decide (¬cf y x<0)) (fun a b c h1 h2 => ?_) (fun a b => ?_) xs
 ·exact h.imp fun h=>of_decide_eq_true h
 ·have:=hS.ntrans c b a (by simpa [ltOf] using h2) (by simpa [ltOf] using h1)
  simpa [ltOf] using this
 ·by_cases h1:cf b a<0
  ·by_cases h2:cf a b<0
   ·have:=hS.trans a b a (by simpa [ltOf] using h2) (by simpa [ltOf] using h1)
    rw[hS.irrefl] at this;cases this
   ·simp [h2]
  ·simp [h1]
theorem sortBy_eq {β:Type} {cf:β→β→Int} (hS:SWO (ltOf cf)) (ha:∀x y,¬cf x y<0→¬cf y x<0→x=y) {xs ys:List β} (hp:ys.Perm xs) (hq:ys.Pairwise fun x y=>¬cf y x<0):ys=sortBy cf xs :=
 List.Perm.eq_of_pairwise (le:=fun x y=>¬cf y x<0) (fun a b _ _ h1 h2=>ha a b h2 h1) hq (sortBy_pair hS xs) (hp.trans (sortBy_perm cf xs).symm)
theorem sort_calls' {P:Program} {ρ:Ren} (S:SlLaysF.n6 P ρ) {g:Nat} {t:TypeId} {β:Type} (av:β→AV) (Q:β→Prop) (dflt:β) (hQ:Q dflt) (hd:∀w A,∃u,Rel w A (av dflt) u)
  (ho:∀x,Q x→one (av x)=true) (cf:β→β→Int) (hS:SWO (ltOf cf)) (ha:∀x y,¬cf x y<0→¬cf y x<0→x=y) (hc:∀x y,Q x→Q y→PC P g [av x,av y] (.v (.int .i64 (cf x y)))) (b cap:Nat) (xs:List β)
  (hx:∀x ∈ xs,Q x) (hlen:xs.length<4611686018427387904) :
  MCalls P (ρ.f 6) [.ls b 1 0 xs.length cap,.v (.func (.func g) #[] #[])] [(b,.row t 1 (xs.map av) cap)] fun r L'=>r = .tup []∧L'=[(b,.row t 1 ((sortBy cf xs).map av) cap)] :=
 (sort_calls S av Q dflt hQ hd ho cf hS hc b cap xs hx hlen).mono fun r L' ⟨h1,ys,hp,hq,h2⟩=>⟨h1,by rw[h2,sortBy_eq hS ha hp hq]⟩
theorem PC.same {P:Program} {f:FuncId} {args:List AV} {vs:List Value} {v:Value} (he:Enters P f) (hv:∀w A us,Rels w A args us→us=vs) (h:∀w,Calls P f vs.toArray w fun e w'=>e = .returned v∧w'=w):PC P f args (.v v) :=
 ⟨he,fun n w A us hL hr=>callsIn_wide.2 (by
  rw[hv w A us hr]
  refine Calls.mono (h w) ?_
  rintro e w' ⟨rfl,rfl⟩
  exact⟨v,.v v,[],A,rfl,⟨rfl,rfl⟩,.refl _ _,fun _ h => .inl h,hL,(fun x hx=>nomatch hx),.v v⟩)⟩
end Go.AL
end
section
namespace Go.AL
open Go Go.RowKit Go.Lib Go.Sort Go.Proofs Go.Shelf
def sortRows_ren:Go.Shelf.Ren:=⟨fun|6=>166|15=>211|14=>210|28=>240|29=>241|20=>232|21=>233|22=>234|23=>235|24=>236|25=>237|26=>238|27=>239|46=>254|47=>255|48=>256|49=>257|50=>258|57=>263|n=>n,fun|22=>27|24=>43|25=>219|3=>3|39=>254|0=>0|53=>276|55=>278|4=>4|46=>269|45=>268|50=>273|5=>5|9=>9|66=>283|70=>83|76=>292|77=>128|n=>n,fun|n=>n⟩
theorem sortRows:Go.Proofs.SlLaysF.n6 Proofs.Tryz.prog sortRows_ren where
 mixed:=by kernel_rfl
 f6:=⟨"slices.SortFunc[[][]int,[]int]",by decide,Proofs.Tryz.func166.trans (congrArg some (by kernel_rfl))⟩
 f14:=⟨"slices.pdqsortCmpFunc[[]int]",by decide,Proofs.Tryz.func210.trans (congrArg some (by kernel_rfl))⟩
 f15:=Proofs.Tryz.func211.trans (congrArg some (by kernel_rfl))
 f20:=⟨"slices.insertionSortCmpFunc[[]int]",by decide,Proofs.Tryz.func232.trans (congrArg some (by kernel_rfl))⟩
 f21:=⟨"slices.heapSortCmpFunc[[]int]",by decide,Proofs.Tryz.func233.trans (congrArg some (by kernel_rfl))⟩
 f22:=⟨"slices.breakPatternsCmpFunc[[]int]",by decide,Proofs.Tryz.func234.trans (congrArg some (by kernel_rfl))⟩
 f23:=⟨"slices.choosePivotCmpFunc[[]int]",by decide,Proofs.Tryz.func235.trans (congrArg some (by kernel_rfl))⟩
 f24:=⟨"slices.reverseRangeCmpFunc[[]int]",by decide,Proofs.Tryz.func236.trans (congrArg some (by kernel_rfl))⟩
 f25:=⟨"slices.partialInsertionSortCmpFunc[[]int]",by decide,Proofs.Tryz.func237.trans (congrArg some (by kernel_rfl))⟩
 f26:=⟨"slices.partitionEqualCmpFunc[[]int]",by decide,Proofs.Tryz.func238.trans (congrArg some (by kernel_rfl))⟩
 f27:=⟨"slices.partitionCmpFunc[[]int]",by decide,Proofs.Tryz.func239.trans (congrArg some (by kernel_rfl))⟩
 f28:=Proofs.Tryz.func240.trans (congrArg some (by kernel_rfl))
 f29:=Proofs.Tryz.func241.trans (congrArg some (by kernel_rfl))
 f46:=⟨"slices.siftDownCmpFunc[[]int]",by decide,Proofs.Tryz.func254.trans (congrArg some (by kernel_rfl))⟩
 f47:=Proofs.Tryz.func255.trans (congrArg some (by kernel_rfl))
 f48:=Proofs.Tryz.func256.trans (congrArg some (by kernel_rfl))
 f49:=⟨"slices.medianAdjacentCmpFunc[[]int]",by decide,Proofs.Tryz.func257.trans (congrArg some (by kernel_rfl))⟩
 f50:=⟨"slices.medianCmpFunc[[]int]",by decide,Proofs.Tryz.func258.trans (congrArg some (by kernel_rfl))⟩
 f57:=⟨"slices.order2CmpFunc[[]int]",by decide,Proofs.Tryz.func263.trans (congrArg some (by kernel_rfl))⟩
 t0:=Proofs.Tryz.underlying0
 a0:=Proofs.Tryz.isAgg0
 z0:=Proofs.Tryz.sizeOf0
 v0:=Proofs.Tryz.zeroValue0
 t3:=Proofs.Tryz.underlying3
 a3:=Proofs.Tryz.isAgg3
 z3:=Proofs.Tryz.sizeOf3
 v3:=Proofs.Tryz.zeroValue3
 t4:=Proofs.Tryz.underlying4
 a4:=Proofs.Tryz.isAgg4
 z4:=Proofs.Tryz.sizeOf4
 v4:=Proofs.Tryz.zeroValue4
 t5:=Proofs.Tryz.underlying5
 a5:=Proofs.Tryz.isAgg5
 z5:=Proofs.Tryz.sizeOf5
 v5:=Proofs.Tryz.zeroValue5
 t9:=Proofs.Tryz.underlying9
 a9:=Proofs.Tryz.isAgg9
 z9:=Proofs.Tryz.sizeOf9
 v9:=Proofs.Tryz.zeroValue9
 t22:=Proofs.Tryz.underlying27
 a22:=Proofs.Tryz.isAgg27
 z22:=Proofs.Tryz.sizeOf27
 v22:=Proofs.Tryz.zeroValue27
 a24:=Proofs.Tryz.isAgg43
 z24:=Proofs.Tryz.sizeOf43
 t25:=Proofs.Tryz.underlying219
 a25:=Proofs.Tryz.isAgg219
 z25:=Proofs.Tryz.sizeOf219
 v25:=Proofs.Tryz.zeroValue219
 t39:=Proofs.Tryz.underlying254
 a39:=Proofs.Tryz.isAgg254
 z39:=Proofs.Tryz.sizeOf254
 v39:=Proofs.Tryz.zeroValue254
 t45:=Proofs.Tryz.underlying268
 a45:=Proofs.Tryz.isAgg268
 z45:=Proofs.Tryz.sizeOf268
 v45:=Proofs.Tryz.zeroValue268
 t46:=Proofs.Tryz.underlying269
 a46:=Proofs.Tryz.isAgg269
 z46:=Proofs.Tryz.sizeOf269
 v46:=Proofs.Tryz.zeroValue269
 t50:=Proofs.Tryz.underlying273
 a50:=Proofs.Tryz.isAgg273
 z50:=Proofs.Tryz.sizeOf273
 v50:=Proofs.Tryz.zeroValue273
 t53:=Proofs.Tryz.underlying276
 a53:=Proofs.Tryz.isAgg276
 z53:=Proofs.Tryz.sizeOf276
 v53:=Proofs.Tryz.zeroValue276
 t55:=Proofs.Tryz.underlying278
 a55:=Proofs.Tryz.isAgg278
 z55:=Proofs.Tryz.sizeOf278
 v55:=Proofs.Tryz.zeroValue278
 t66:=Proofs.Tryz.underlying283
 a66:=Proofs.Tryz.isAgg283
 z66:=Proofs.Tryz.sizeOf283
 v66:=Proofs.Tryz.zeroValue283
 t70:=Proofs.Tryz.underlying83
 a70:=Proofs.Tryz.isAgg83
 z70:=Proofs.Tryz.sizeOf83
 v70:=Proofs.Tryz.zeroValue83
 t76:=Proofs.Tryz.underlying292
 a76:=Proofs.Tryz.isAgg292
 z76:=Proofs.Tryz.sizeOf292
 v76:=Proofs.Tryz.zeroValue292
 t77:=Proofs.Tryz.underlying128
 a77:=Proofs.Tryz.isAgg128
 z77:=Proofs.Tryz.sizeOf128
 v77:=Proofs.Tryz.zeroValue128
end Go.AL
end
section
namespace Go.AL
open Go Go.RowKit Go.Sort Go.Proofs
set_option maxRecDepth 4000
def cmpL:List Int→List Int→Int
 | [],[]=>0
 | [],_ :: _ => -1
 | _ :: _,[]=>1
 | x :: xs,y :: ys=>if x<y then -1 else if y<x then 1 else cmpL xs ys
theorem cmpL_cons (x y:Int) (xs ys:List Int):cmpL (x :: xs) (y :: ys)=if x<y then -1 else if y<x then 1 else cmpL xs ys:=by rw[cmpL]
theorem cmpL_irr:∀a,cmpL a a=0
 | []=>rfl
 | x :: xs=>by unfold cmpL;rw[if_neg (by omega),if_neg (by omega)];exact cmpL_irr xs
theorem cmpL_anti:∀a b,¬cmpL a b<0→¬cmpL b a<0→a=b
 | [],[],_,_=>rfl
 | [],_ :: _,h,_=>absurd (show cmpL [] _<0 from (by unfold cmpL;omega)) h
 | _ :: _,[],_,h=>absurd (show cmpL [] _<0 from (by unfold cmpL;omega)) h
 | x :: xs,y :: ys,h1,h2=>by
  unfold cmpL at h1 h2
  by_cases c1:x<y
  ·rw[if_pos c1] at h1;omega
  ·by_cases c2:y<x
   ·rw[if_pos c2] at h2;omega
   ·rw[if_neg c1,if_neg c2] at h1;rw[if_neg c2,if_neg c1] at h2
    rw[cmpL_anti xs ys h1 h2,show x=y by omega]
theorem cmpL_trans:∀a b c,cmpL a b<0→cmpL b c<0→cmpL a c<0
 | [],_,[],h1,h2=>by
  cases ‹List Int› with
  | nil=>unfold cmpL at h1;omega
  | cons=>unfold cmpL at h2;omega
 | [],_,_ :: _,_,_=>by unfold cmpL;omega
 | _ :: _,[],_,h,_=>by unfold cmpL at h;omega
 | _ :: _,_ :: _,[],_,h=>by unfold cmpL at h;omega
 | x :: xs,y :: ys,z :: zs,h1,h2=>by
  unfold cmpL at h1 h2 ⊢
  by_cases c1:x<y
  ·by_cases c2:y<z
   ·rw[if_pos (by omega)];omega
   ·rw[if_neg c2] at h2
    by_cases c3:z<y
    ·rw[if_pos c3] at h2;omega
    ·rw[if_pos (by omega)];omega
  ·rw[if_neg c1] at h1
   by_cases c4:y<x
   ·rw[if_pos c4] at h1;omega
   ·rw[if_neg c4] at h1
    by_cases c2:y<z
    ·rw[if_pos (by omega)];omega
    ·rw[if_neg c2] at h2
     by_cases c3:z<y
     ·rw[if_pos c3] at h2;omega
     ·rw[if_neg c3] at h2
      rw[if_neg (by omega),if_neg (by omega)]
      exact cmpL_trans xs ys zs h1 h2
theorem cmpL_ntrans (a b c:List Int) (h1:¬cmpL a b<0) (h2:¬cmpL b c<0):¬cmpL a c<0:=fun h=>by
 by_cases e:cmpL b a<0
 ·exact h2 (cmpL_trans b a c e h)
 ·rw[cmpL_anti a b h1 e] at h;exact h2 h
theorem swoL:SWO (ltOf cmpL) where
 irrefl x:=by simp [ltOf,cmpL_irr]
 trans x y z h1 h2:=by simp only[ltOf,decide_eq_true_eq] at *;exact cmpL_trans x y z h1 h2
 ntrans x y z h1 h2:=by simp only[ltOf,decide_eq_false_iff_not] at *;exact cmpL_ntrans x y z h1 h2
theorem cmpL_drop:∀(k:Nat) (a b:List Int),k≤a.length→k≤b.length→(∀(i:Nat) (h:i<a.length) (h':i<b.length),i<k→a[i]=b[i])→cmpL a b=cmpL (a.drop k) (b.drop k)
 | 0,_,_,_,_,_=>rfl
 | k+1,[],_,h,_,_=>by simp at h
 | k+1,_ :: _,[],_,h,_=>by simp at h
 | k+1,x :: a,y :: b,h1,h2,h3=>by
  have e:x=y:=h3 0 (by simp) (by simp) (by omega)
  subst e
  rw[List.drop_succ_cons,List.drop_succ_cons,← cmpL_drop k a b (by simpa using h1) (by simpa using h2) fun i h h' hi=>h3 (i+1) (by simpa using h) (by simpa using h') (by omega)]
  conv=>lhs;unfold cmpL
  rw[if_neg (by omega),if_neg (by omega)]
theorem nan_int (x:Int):PC Proofs.Tryz.prog 242 [ai x] (ab false):=by
 refine PC.enter 6 [.tmp 2] [] Proofs.Tryz.func242 rfl rfl rfl rfl rfl (by simp) (AWp.of ?_);simp only[go_sem]
 refine Wk ?_
 refine ret_eq ?_;simp only[go_sem]
def cmpI (x y:Int):Int:=if x<y then -1 else if y<x then 1 else 0
theorem cmp_int (x y:Int):PC Proofs.Tryz.prog 212 [ai x,ai y] (ai (cmpI x y)):=by
 refine PC.enter 20 [.tmp 4] [] Proofs.Tryz.func212 rfl rfl rfl rfl rfl (by simp) (AWp.of ?_);simp only[go_sem]
 refine Wk ?_
 refine Sd ?_
 refine(nan_int x).val.use ?_;simp only[go_sem]
 refine Wk ?_
 refine Sd ?_
 refine(nan_int y).val.use ?_;simp only[go_sem]
 refine Wk ?_
 refine Wk ?_
 refine⟨fun h => ?_,fun h => ?_⟩
 ·refine Wk ?_
  refine ret_eq ?_;simp only[go_sem]
  unfold cmpI;rw[if_pos h]
 ·refine Wk ?_
  refine⟨fun h2 => ?_,fun h2 => ?_⟩
  ·refine Wk ?_
   refine ret_eq ?_;simp only[go_sem]
   unfold cmpI;rw[if_neg h,if_pos (by omega)]
  ·refine Wk ?_
   refine ret_eq ?_;simp only[go_sem]
   unfold cmpI;rw[if_neg h,if_neg (by omega)]
theorem ints_compare (a b:List Int) (ha:a.length≤1000000):PC Proofs.Tryz.prog 168 [aInts a,aInts b] (ai (cmpL a b)):=by
 refine PC.enter 36 [.tmp 4] [] Proofs.Tryz.func168 rfl rfl rfl rfl rfl (by simp) (AWp.of ?_);simp only[go_sem]
 refine Wk ?_
 refine AWp.range' a.length [] [0,1,9,10] (fun k vs L=>L=[]∧k≤b.length∧∀(i:Nat) (hi:i<a.length) (h':i<b.length),i<k→a[i]=b[i]) (by omega) rfl rfl rfl ⟨rfl,by omega,by omega⟩ ?_ ?_
 ·rintro k vs L' hk - ⟨rfl,hkb,hI⟩
  simp only[go_sem]
  have hd:=cmpL_drop k a b (by omega) hkb hI
  rw[List.drop_eq_getElem_cons hk] at hd
  repeat(first|((with_reducible refine AWp.ofC ?_ ?_);exact rfl;simp only[go_sem,getD_map hk])|((with_reducible refine an ?_ ?_);exact Au))
  refine Wk ?_
  refine⟨fun h1 => ?_,fun h1 => ?_⟩
  ·refine Wk ?_
   refine ret_eq ?_;simp only[go_sem]
   rw[hd,show b.drop k=[] from List.drop_of_length_le (by omega)];rfl
  ·have hkb2:k<b.length:=by omega
   rw[List.drop_eq_getElem_cons hkb2] at hd
   rw[cmpL_cons] at hd
   repeat(first|((with_reducible refine AWp.ofC ?_ ?_);exact rfl;simp only[go_sem,getD_map hkb2])|((with_reducible refine an ?_ ?_);exact Au))
   refine Sd ?_
   refine(cmp_int a[k] b[k]).val.use ?_;simp only[go_sem]
   refine Wk ?_
   refine⟨fun h2 => ?_,fun h2 => ?_⟩
   ·refine Wk ?_
    refine ret_eq ?_;simp only[go_sem]
    rw[hd];unfold cmpI at h2 ⊢
    by_cases c1:a[k]<b[k]
    ·rw[if_pos c1,if_pos c1]
    ·by_cases c2:b[k]<a[k]
     ·rw[if_neg c1,if_neg c1,if_pos c2,if_pos c2]
     ·rw[if_neg c1,if_neg c2] at h2;exact absurd rfl h2
   ·refine⟨[],List.Sublist.refl _,rfl,by omega,fun i hi h' hik => ?_⟩
    by_cases e:i=k
    ·subst e;unfold cmpI at h2
     by_cases c1:a[i]<b[i]
     ·rw[if_pos c1] at h2;exact absurd h2 (by omega)
     ·by_cases c2:b[i]<a[i]
      ·rw[if_neg c1,if_pos c2] at h2;exact absurd h2 (by omega)
      ·omega
    ·exact hI i hi h' (by omega)
 ·rintro vs L' - ⟨rfl,hkb,hI⟩
  simp only[go_sem]
  have hd:=cmpL_drop a.length a b (by omega) hkb hI
  rw[List.drop_of_length_le (Nat.le_refl _)] at hd
  refine Wk ?_
  refine⟨fun h1 => ?_,fun h1 => ?_⟩
  ·refine Wk ?_
   refine ret_eq ?_;simp only[go_sem]
   rw[hd,List.drop_eq_getElem_cons (show a.length<b.length by omega)];rfl
  ·refine Wk ?_
   refine ret_eq ?_;simp only[go_sem]
   rw[hd,List.drop_of_length_le (by omega)];rfl
theorem next_cmp (a b:List Int) (ha:a.length≤1000000):PC Proofs.Tryz.prog 167 [aInts a,aInts b] (ai (cmpL a b)):=by
 refine PC.enter 8 [.tmp 4] [] Proofs.Tryz.func167 rfl rfl rfl rfl rfl (by simp) (AWp.of ?_);simp only[go_sem]
 refine Wk ?_
 refine Sd ?_
 refine(ints_compare a b ha).val.use ?_;simp only[go_sem]
 refine Wk ?_
 refine ret_eq ?_;simp only[go_sem]
theorem next_same (a b:List Int) (ha:a.length≤1000000):PC Proofs.Tryz.prog 170 [aInts a,aInts b] (ab (decide (a=b))):=by
 refine PC.enter 8 [.tmp 4] [] Proofs.Tryz.func170 rfl rfl rfl rfl rfl (by simp) (AWp.of ?_);simp only[go_sem]
 refine Wk ?_
 refine Sd ?_
 refine(ints_equal a b ha).val.use ?_;simp only[go_sem]
 refine Wk ?_
 refine ret_eq ?_;simp only[go_sem]
def sortL (xs:List (List Int)):List (List Int):=sortBy cmpL xs
theorem sort_rows (b cap:Nat) (xs:List (List Int)) (hx:∀x ∈ xs,x.length≤1000000) (hl:xs.length≤1000000) (t:TypeId) :
  MCalls Proofs.Tryz.prog 166 [.ls b 1 0 xs.length cap,.v (.func (.func 167) #[] #[])] [(b,.row t 1 (xs.map aInts) cap)] fun r L'=>r = .tup []∧L'=[(b,.row t 1 ((sortL xs).map aInts) cap)] :=
 sort_calls' sortRows aInts (fun x=>x.length≤1000000) [] (by simp) (fun w A=>⟨.slice none 0 0,.sl0 _ _ _ (Nat.zero_le _)⟩) (fun x _=>rfl) cmpL swoL cmpL_anti (fun x y h _=>next_cmp x y h) b cap xs hx (by omega)
end Go.AL
end
section
namespace Go.AL
open Go Go.RowKit
variable {C:Cfg} {a b:Code} {Q:AQ} {ρ:Env} {L:AHeap}
theorem AWp.cutF (ks:List Nat) (J:List AV→AHeap→Prop) (h1:AWp C a (cutQ ks J fun _ _ _=>False) ρ [])
  (h2:∀vs L',vs.length=ks.length→J vs L'→AWp C b Q (ks.zip vs) (L ++ L')):AWp C (.seq a b) Q ρ L:=by
 refine AWp.cut ks (fun vs L'=>∃L1,L'=L ++ L1∧J vs L1) ?_ ?_
 ·have h:=AWp.frame L h1
  rw[List.append_nil] at h
  refine h.mono fun e ρ' L'' ⟨L',e1,hq⟩ => ?_
  cases e with
  | normal =>
   obtain⟨L1,hs,hj⟩:=hq
   exact⟨L ++ L1,e1 ▸ (List.Sublist.refl _).append hs,L1,rfl,hj⟩
  | _=>exact hq.elim
 ·rintro vs L' hl ⟨L1,rfl,hj⟩
  exact h2 vs L1 hl hj
theorem AWp.viewA {c:Code} {t:TypeId} {k j:Nat} {ys:List AV} {v:AV} {L1:AHeap} (hA:AppSt t k ys v L1) (hj:get ρ j=v) (h:AWp C c Q ((j,.sl k ys) :: ρ) L):AWp C c Q ρ (L ++ L1):=by
 refine AWp.viewP (Lf:=L1) (Lk:=L) (L':=L) List.perm_append_comm (LVw.refl _) [(j,.sl k ys)] (fun p hp => ?_) h
 obtain rfl:=List.mem_singleton.1 hp
 have:=hA.vw []
 rw[List.append_nil] at this
 rw[hj];exact this
theorem AWp.capOk {c:Code} {b k cap:Nat} {t:TypeId} {xs:List AV} (hl:lk L b=some (.row t k xs cap)) (h:xs.length≤cap→AWp C c Q ρ L):AWp C c Q ρ L:=fun hok n w0 M A0 a w hs=>by
 obtain⟨A,ds,h1,h2,h3,h4⟩:=hs
 obtain⟨_,_,_,h5,_⟩:=BlkRel.row_iff.1 (h3.lk hl)
 exact h h5 hok n w0 M A0 a w ⟨A,ds,h1,h2,h3,h4⟩
end Go.AL
end
section
namespace Go.AL
open Go Go.RowKit
def aNilR (P:Program) (op:BinOp) (t:TypeId) (x y:AV):Option (Prop × AV) :=
 match x,y,tinfo P t with
 | .sl _ xs,.v (.slice none 0 0),some ⟨.slice _,_,_,_⟩=>match op with
  | .eql=>some (xs ≠ [],ab false)
  | .neq=>some (xs ≠ [],ab true)
  | _=>none
 | _,_,_=>none
def avalR (P:Program) (ρ:Env) (L:AHeap) (op:Op):Option (Prop × AV) :=
 match aval P ρ L op with
 | some z=>some z
 | none=>match op with
  | .binOp b t x y _=>w2 (ev ρ x) (ev ρ y) (aNilR P b t)
  | _=>none
theorem avalR_congr {P:Program} {ρ ρ':Env} {L:AHeap} {op:Op} (h:∀x ∈ op.operands,ev ρ' x=ev ρ x):avalR P ρ' L op=avalR P ρ L op:=by
 unfold avalR
 rw[aval_congr h]
 cases op with
 | binOp b t x y t' =>
  have e1:=h x (by simp [Op.operands])
  have e2:=h y (by simp [Op.operands])
  simp only[e1,e2]
 | _=>rfl
theorem aNilR_sound {C:Cfg} {o:Oper} {ρ:Env} {L:AHeap} {op:BinOp} {t t':TypeId} {x y:Operand} (ho:o.op = .binOp op t x y t') (hd:dstOk C o) {c:Prop} {z:AV} (h:w2 (ev ρ x) (ev ρ y) (aNilR C.P op t)=some (c,z)) (hc:c) :
  AOp C o ρ L fun ρ' L'=>ρ'=put ρ o.dst z∧L'=L:=by
 obtain⟨h1,h2,c',h3,h4⟩:=w2_inv h hc
 unfold aNilR at h3
 split at h3
 ·rename_i k xs e _ _ _ hx hy hti
  have hu:=tinfo_slice hti
  have main:∀(f:Bool→Bool),((op = .eql∧f=id)∨(op = .neq∧f=not))→xs ≠ []→z=ab (f false)→AOp C o ρ L fun ρ' L'=>ρ'=put ρ o.dst z∧L'=L:=fun f hf hne hz =>
   AOp.of_run (fun c e=>by rw[ho] at e;cases e) fun w0 M A0 a w A ds hs=>by
    have rx:=fo_ok (hs.ev x) h1;rw[hx] at rx
    have ry:=fo_ok (hs.ev y) h2;rw[hy] at ry
    have ry:=ry.inv_v
    have hval:∃a0 n m,a.eval x = .slice a0 n m∧a0.isNone=false:=by
     generalize a.eval x=u at rx
     cases rx with
     | sl0 _ a0 cap hc=>exact absurd rfl hne
     | sl _ _ b off cap=>exact⟨_,_,_,rfl,rfl⟩
    obtain⟨a0,n,m,e,hne⟩:=hval
    refine⟨_,w,?_,.inl ⟨.bool (f a0.isNone),rfl,_,_,⟨by rw[hz],rfl⟩,st_iff.2 ⟨A,ds,hs.put hd (by rw[hne];exact .v _)⟩⟩⟩
    unfold execOp
    rw[ho]
    rcases hf with ⟨rfl,rfl⟩|⟨rfl,rfl⟩
    ·simp [e,ry,eqGuard_slice,binOp,equal_slice_nil hu]
    ·simp [e,ry,eqGuard_slice,binOp,equal_slice_nil hu]
  split at h3
  ·cases h3;exact main id (.inl ⟨rfl,rfl⟩) h4 rfl
  ·cases h3;exact main not (.inr ⟨rfl,rfl⟩) h4 rfl
  ·cases h3
 ·cases h3
theorem avalR_sound {C:Cfg} {o:Oper} {ρ:Env} {L:AHeap} {c:Prop} {x:AV} (hv:avalR C.P ρ L o.op=some (c,x)) (hc:c) (hd:dstOk C o) (hdef:∀c,o.op ≠ .defer c):AOp C o ρ L fun ρ' L'=>ρ'=put ρ o.dst x∧L'=L:=by
 unfold avalR at hv
 split at hv
 ·rename_i z hz
  cases hv
  exact aval_sound hz hc hd hdef
 ·split at hv
  ·rename_i ho
   exact aNilR_sound ho hd hv hc
  ·cases hv
def YldL (C:Cfg) (ops:Array Oper) (i:Nat) (o:Oper) (x:AV) (ρ:Env) (L:AHeap):Prop :=
 ∀ρ',(∀t ∈ o.looksAt ops,get ρ' t=get ρ t)→GOp C ops i ρ' L fun ρ2 L2=>ρ2=put ρ' o.dst x∧L2=L
def aqL (C:Cfg) (all:List Oper) (o:Oper) (ρ:Env) (L:AHeap) (K:Env→Prop):Prop :=
 match o.guard with
 | none=>match avalR C.P ρ L o.op with
  | some (c,x)=>c∧K (put ρ o.dst x)
  | none=>match o.op with
   | .call c=>match c.callee with
    | .value g=>GCall C.P True ((fo (ev ρ g)).1∧fos (c.args.toList.map (ev ρ))) (fo (ev ρ g)).2 (c.args.toList.map fun x=>(fo (ev ρ x)).2) L (putQ K ρ o.dst)
    | _=>False
   | _=>False
 | some (j,want)=>match gval all ρ j want with
  | some b=>match avalR C.P ρ L o.op with
   | some (c,x)=>(b=want→c)∧K (put ρ o.dst (.cond (b == want) x))
   | none=>match o.op with
    | .call c=>match c.callee with
     | .value g=>GCall C.P (b=want) ((fo (ev ρ g)).1∧fos (c.args.toList.map (ev ρ))) (fo (ev ρ g)).2 (c.args.toList.map fun x=>(fo (ev ρ x)).2) L (putQC K ρ o.dst (b == want))
     | _=>b ≠ want∧K (put ρ o.dst (.cond (b == want) .any))
    | _=>b ≠ want∧K (put ρ o.dst (.cond (b == want) .any))
  | none=>False
def aqLRun (C:Cfg) (all:List Oper) (L:AHeap):List Nat→(Env→Prop)→Env→Prop
 | [],K,ρ=>K ρ
 | i :: r,K,ρ=>match all[i]? with
  | some o=>aqL C all o ρ L (aqLRun C all L r K)
  | none=>False
section
variable {C:Cfg} {ops:Array Oper} {L:AHeap}
theorem aqL_yields {i:Nat} {o:Oper} {ρ:Env} {K:Env→Prop} (hi:ops[i]?=some o) (hok:operOk C.N o=true) (h:aqL C ops.toList o ρ L K):∃x,YldL C ops i o x ρ L∧K (put ρ o.dst x):=by
 have hd:=operOk_dst hok
 have hdef:=operOk_def hok
 unfold aqL at h
 split at h
 ·rename_i hg
  split at h
  ·rename_i c x hv
   exact⟨x,fun ρ' hag=>AOp.gop hi hg (avalR_sound (by rw[avalR_congr (agree_ops hag)];exact hv) h.1 hd hdef),h.2⟩
  ·split at h
   ·rename_i cl ho
    split at h
    ·rename_i g h0
     obtain⟨r,h1,h2⟩:=h
     refine⟨r,fun ρ' hag=>AOp.gop hi hg ?_,h2⟩
     have hag':=agree_ops hag
     rw[ho] at hag'
     obtain⟨e1,e2,e3⟩:=call_congr h0 hag'
     exact call_sound ho h0 hd (by rw[e1,e2,e3];exact⟨(h1 trivial).1.1,(h1 trivial).1.2,(h1 trivial).2⟩)
    ·exact h.elim
   ·exact h.elim
 ·rename_i j want hg
  split at h
  ·rename_i b hv
   split at h
   ·rename_i c x ha
    refine⟨_,fun ρ' hag=>GOp.of_cond hi hg (by rw[agree_guard hag hg];exact hv) hd fun hb=>avalR_sound (by rw[avalR_congr (agree_ops hag)];exact ha) (h.1 hb) hd hdef,h.2⟩
   ·split at h
    ·rename_i cl ho
     split at h
     ·rename_i g h0
      obtain⟨r,h1,h2⟩:=h
      refine⟨_,fun ρ' hag=>GOp.of_cond hi hg (by rw[agree_guard hag hg];exact hv) hd fun hb => ?_,h2⟩
      have hag':=agree_ops hag
      rw[ho] at hag'
      obtain⟨e1,e2,e3⟩:=call_congr h0 hag'
      exact call_sound ho h0 hd (by rw[e1,e2,e3];exact⟨(h1 hb).1.1,(h1 hb).1.2,(h1 hb).2⟩)
     ·refine⟨_,fun ρ' hag=>GOp.of_cond hi hg (by rw[agree_guard hag hg];exact hv) hd fun hb=>absurd hb h.1,h.2⟩
    ·refine⟨_,fun ρ' hag=>GOp.of_cond hi hg (by rw[agree_guard hag hg];exact hv) hd fun hb=>absurd hb h.1,h.2⟩
  ·exact h.elim
def QFactL (C:Cfg) (ops:Array Oper) (ρ:Env) (L:AHeap) (q:Nat):Prop:=∃o x,ops[q]?=some o∧YldL C ops q o x ρ L∧∀d,o.dst=some d→get ρ d=x
theorem YldL.of_agree {i:Nat} {o:Oper} {x:AV} {ρ ρ':Env} (h:YldL C ops i o x ρ L) (he:∀t ∈ o.looksAt ops,get ρ' t=get ρ t):YldL C ops i o x ρ' L :=
 fun ρ2 hag=>h ρ2 fun t ht=>(hag t ht).trans (he t ht)
theorem aqLRun_facts {qs0:List Nat} (hm:mixOk ops qs0=true) (hok:ops.toList.all (operOk C.N)=true):∀(qs:List Nat) (ρ:Env) (K:Env→Prop),(∀q ∈ qs,q ∈ qs0)→ascend qs=true→aqLRun C ops.toList L qs K ρ →
  ∃ρq,K ρq∧(∀q ∈ qs,QFactL C ops ρq L q)∧∀s,(∀q ∈ qs,dstOf ops q ≠ some s)→get ρq s=get ρ s
 | [],ρ,K,_,_,h=>⟨ρ,h,fun q hq=>(by cases hq),fun _ _=>rfl⟩
 | i :: r,ρ,K,hsub,hasc,h=>by
  obtain⟨hlt,hasc'⟩:=ascend_cons hasc
  simp only[aqLRun] at h
  cases ho:ops.toList[i]? with
  | none=>rw[ho] at h;exact h.elim
  | some o =>
   rw[ho] at h
   have ho':ops[i]?=some o:=by simpa using ho
   obtain⟨x,hy,hK⟩:=aqL_yields ho' (List.all_eq_true.1 hok o (List.mem_of_getElem? ho)) h
   obtain⟨ρq,h1,h2,h3⟩:=aqLRun_facts hm hok r _ K (fun q hq=>hsub q (List.mem_cons_of_mem _ hq)) hasc' hK
   obtain⟨p1,p2,_⟩:=mix_at hm ho'
   have hself:∀d,o.dst=some d→d ∉ o.looksAt ops:=fun d hd hm'=>by
    have:=(p2 i (hsub i List.mem_cons_self) d (by simp [dstOf,ho',hd])).1 hm'
    exact absurd (p1 i this) (Nat.lt_irrefl i)
   refine⟨ρq,h1,fun q hq => ?_,fun s hs => ?_⟩
   ·rcases List.mem_cons.1 hq with rfl|hq
    ·refine⟨o,x,ho',hy.of_agree fun t ht => ?_,fun d hd => ?_⟩
     ·rw[h3 t fun q' hq' he => ?_,get_put,if_neg fun he=>hself t he ht]
      have:=(p2 q' (hsub q' (List.mem_cons_of_mem _ hq')) t he).1 ht
      have:=p1 q' this;have:=hlt q' hq';omega
     ·rw[h3 d fun q' hq' he => ?_,get_put,if_pos hd]
      exact(p2 q' (hsub q' (List.mem_cons_of_mem _ hq')) d he).2 (by have:=hlt q' hq';omega) hd
    ·exact h2 q hq
   ·rw[h3 s fun q hq=>hs q (List.mem_cons_of_mem _ hq),get_put,if_neg]
    have:=hs i List.mem_cons_self
    simpa [dstOf,ho'] using this
theorem read_sound {qs:List Nat} (hm:mixOk ops qs=true) (hall:∀i,i<ops.size→i ∈ qs) {K:ARes} {n:Nat} {w0:World} {M A0:Foot} {Q:Exit→Act→World→Prop} (hQ:∀a w,post w0 M A0 C.N K a w→Q .normal a w) {ρT:Env} (hK:K ρT L) :
  ∀(f:Nat) (listed:Array Bool) (a:Act) (w:World),listed.size=ops.size →
   (∀l:List Nat,l.Nodup→(∀i ∈ l,listed.getD i true=false)→l.length≤f) →
   (∀q ∈ qs,listed.getD q true=false→QFactL C ops ρT L q)→St w0 M A0 C.N (mask ops qs listed ρT) L a w →
   wpAnyIn (Fw C.r) n C.P .any ops Q f listed a w:=by
 have fin:∀(listed:Array Bool) (a:Act) (w:World),listed.size=ops.size→St w0 M A0 C.N (mask ops qs listed ρT) L a w→Region.ready .any ops listed=[]→Q .normal a w:=by
  intro listed a w hsz hs hr
  have all:∀i,listed.getD i true=true:=by
   intro i
   induction i using Nat.strongRecOn with
   | _ i ih =>
    cases hi:listed.getD i true with
    | true=>rfl
    | false =>
     exfalso
     have hlt:i<ops.size:=by
      rw[← hsz]
      by_cases h:i<listed.size
      ·exact h
      ·simp [Array.getD,h] at hi
     have ho:ops[i]?=some ops[i]:=Array.getElem?_eq_getElem hlt
     have:i ∈ Region.ready .any ops listed:=mem_ready.2 ⟨hi,_,ho,fun e he hb=>by
      have hp:=(mix_at hm ho).1 e.on (List.mem_map.2 ⟨e,List.mem_filter.2 ⟨by simpa using he,hb⟩,rfl⟩)
      exact getD_ft (by omega) (ih _ hp)⟩
     rw[hr] at this;cases this
  refine hQ a w ⟨ρT,L,hK,st_forget hs fun i => .inr ?_⟩
  rw[mask_out fun q _ hl=>by rw[all q] at hl;cases hl]
 intro f
 induction f with
 | zero =>
  intro listed a w hsz hcnt hfact hs
  have hr:Region.ready .any ops listed=[]:=by
   cases hh:Region.ready .any ops listed with
   | nil=>rfl
   | cons j r =>
    have hj:j ∈ Region.ready .any ops listed:=by rw[hh];exact List.mem_cons_self
    have:=hcnt [j] (by simp) (fun i hi=>by simp at hi;subst hi;exact(mem_ready.1 hj).1)
    simp at this
  exact⟨hr,fin listed a w hsz hs hr⟩
 | succ f ih =>
  intro listed a w hsz hcnt hfact hs
  refine⟨fin listed a w hsz hs,fun i hi => ?_⟩
  obtain⟨hun,o,ho,hpre⟩:=mem_ready.1 hi
  have hlt:i<ops.size:=(Array.getElem?_eq_some_iff.1 ho).1
  obtain⟨m1,m2,m3⟩:=mix_at hm ho
  have hlooks:∀t ∈ o.looksAt ops,get (mask ops qs listed ρT) t=get ρT t:=fun t ht=>mask_out fun q hq hl hd=>by
   have hp:=(m2 q hq t hd).1 ht
   obtain⟨e,he,rfl⟩:=List.mem_map.1 hp
   obtain⟨he1,he2⟩:=List.mem_filter.1 he
   have:=getD_tf (hpre e (by simpa using he1) he2)
   rw[hl] at this;cases this
  have hcnt':∀l:List Nat,l.Nodup→(∀j ∈ l,(listed.setIfInBounds i true).getD j true=false)→l.length≤f:=fun l hn hl=>by
   have hil:i ∉ l:=fun h=>by
    have:=hl i h
    simp [Array.getD,show i<listed.size by omega] at this
   have:=hcnt (i :: l) (List.nodup_cons.2 ⟨hil,hn⟩) (fun j hj=>by
    rcases List.mem_cons.1 hj with rfl|hj
    ·exact hun
    ·have:=hl j hj
     have hne:i ≠ j:=fun e=>hil (e ▸ hj)
     rwa [getD_set_ne true hne] at this)
   simp at this;omega
  have hset:∀j,j ≠ i→(listed.setIfInBounds i true).getD j true=listed.getD j true:=fun j hj=>getD_set_ne true (Ne.symm hj)
  have hq:=hall i hlt
  obtain⟨o',x,ho',hy,hgx⟩:=hfact i hq hun
  rw[ho] at ho';cases ho'
  refine wpOpIn_mono ?_ (hy _ hlooks n w0 M A0 a w Q hs)
  rintro a' w' ⟨ρ2,L2,⟨rfl,rfl⟩,hs2⟩
  refine ih _ a' w' (by simpa using hsz) hcnt' (fun q hq' hl=>hfact q hq' (by
   by_cases e:q=i
   ·subst e;exact hun
   ·rwa [hset q e] at hl)) (st_forget hs2 fun s => ?_)
  rcases mask_or (ops:=ops) qs (listed.setIfInBounds i true) ρT s with ⟨h1,_⟩|⟨h1,h2⟩
  ·exact .inl h1
  ·refine .inr ?_
   rw[h1,get_put]
   by_cases hd:o.dst=some s
   ·rw[if_pos hd];exact hgx s hd
   ·rw[if_neg hd,mask_out fun q hq' hl hds => ?_]
    by_cases e:q=i
    ·subst e;exact hd (by simpa [dstOf,ho] using hds)
    ·exact h2 q hq' (by rw[hset q e];exact hl) hds
end
def readAll (ops:Array Oper) (qs:List Nat):Bool:=mixOk ops qs && (List.range ops.size).all fun i=>qs.contains i
def readK (K:ARes) (L:AHeap) (ρ:Env):Prop:=K ρ L
theorem AWp.read {C:Cfg} {id:Nat} {ops:Array Oper} {Q:AQ} {ρ:Env} {L:AHeap} (hmx:C.P.follows .mixedOrders=true) (qs:List Nat) (hT:readAll ops qs=true) (h:aqLRun C ops.toList L qs (readK (Q .normal) L) ρ) :
  AWp C (.region id ops true) Q ρ L:=fun hok n w0 M A0 a w hs=>by
 simp only[readAll,Bool.and_eq_true,List.all_eq_true,List.contains_eq_mem,decide_eq_true_eq] at hT
 obtain⟨hm,hal⟩:=hT
 have hasc:=mix_asc hm
 obtain⟨ρq,hK,hF,hother⟩:=aqLRun_facts hm hok qs ρ _ (fun _ h=>h) hasc.1 h
 refine wpIn_region_any hmx ?_
 obtain⟨A,ds,hs'⟩:=st_iff.1 hs
 refine read_sound hm (fun i hi=>hal i (List.mem_range.2 hi)) (K:=Q .normal) (fun a w ⟨ρ',L',h1,h2⟩=>⟨ρ',L',h1,h2⟩) hK ops.size _ a _ (by simp) ?_ (fun q hq _=>hF q hq) (st_forget (st_iff.2 ⟨A,ds,hs'.drew⟩) fun s => ?_)
 ·intro l hn hl
  have:=List.Nodup.length_le_of_subset hn (l₂:=List.range ops.size) (fun i hi=>by
   have:=hl i hi
   rw[List.mem_range]
   by_cases h:i<ops.size
   ·exact h
   ·simp [Array.getD,h] at this)
  simpa using this
 ·rcases mask_or (ops:=ops) qs (Array.replicate ops.size false) ρq s with ⟨h1,_⟩|⟨h1,h2⟩
  ·exact .inl h1
  ·refine .inr ?_
   rw[h1]
   exact hother s fun q hq hd=>h2 q hq (by simp [Array.getD,hasc.2 q hq]) hd
theorem aqLRun_nil (C:Cfg) (all:List Oper) (L:AHeap) (K:Env→Prop) (ρ:Env):aqLRun C all L [] K ρ=K ρ:=rfl
theorem aqLRun_cons (C:Cfg) (all:List Oper) (L:AHeap) (i:Nat) (r:List Nat) (K:Env→Prop) (ρ:Env):aqLRun C all L (i :: r) K ρ=(match all[i]? with|some o=>aqL C all o ρ L (aqLRun C all L r K)|none=>False):=rfl
attribute [go_sem] aqLRun_nil aqLRun_cons aqL readK avalR aNilR
end Go.AL
end
section
namespace Go.AL
open Go Go.RowKit
set_option maxRecDepth 4000
def compN (xs:List (List Int)):Nat→List (List Int)
 | 0=>[]
 | 1=>xs.take 1
 | n+2=>if xs[n+1]?=xs[n]? then compN xs (n+1) else compN xs (n+1) ++ xs[n+1]?.toList
def compL (xs:List (List Int)):List (List Int):=compN xs xs.length
theorem compN_all {xs:List (List Int)} : ∀ {n:Nat},n≤xs.length→(∀(i:Nat),0<i→i<n→xs[i]? ≠ xs[i - 1]?)→compN xs n=xs.take n
 | 0,_,_=>by simp [compN]
 | 1,_,_=>rfl
 | n+2,hn,h=>by
  have h1:=compN_all (n:=n+1) (by omega) fun i h0 hi=>h i h0 (by omega)
  have h2:=h (n+1) (by omega) (by omega)
  unfold compN
  rw[if_neg (by simpa using h2),h1,List.take_add_one (i:=n+1)]
theorem compN_mem {xs:List (List Int)} {x:List Int} : ∀n,x ∈ compN xs n↔x ∈ xs.take n
 | 0=>by simp [compN]
 | 1=>by unfold compN;rfl
 | n+2=>by
  have ih:=compN_mem (xs:=xs) (x:=x) (n+1)
  unfold compN
  rw[List.take_add_one (i:=n+1),List.mem_append,← ih]
  split
  ·rename_i e
   refine⟨.inl,fun h=>h.elim id fun h=>ih.2 ?_⟩
   rw[e] at h
   rw[List.take_add_one,List.mem_append];exact .inr h
  ·rw[List.mem_append]
theorem compL_mem {xs:List (List Int)} {x:List Int} : x ∈ compL xs↔x ∈ xs:=by unfold compL;rw[compN_mem,List.take_length]
theorem compN_pair {xs:List (List Int)} (hs:xs.Pairwise fun x y=>¬cmpL y x<0):∀n,n≤xs.length→(compN xs n).Pairwise (fun x y=>cmpL x y<0)
 | 0,_=>by simp [compN]
 | 1,_=>by
  unfold compN
  cases xs with
  | nil=>simp
  | cons x xs=>simp
 | n+2,hn=>by
  have ih:=compN_pair hs (n+1) (by omega)
  unfold compN
  split
  ·exact ih
  ·rename_i hne
   rw[List.getElem?_eq_getElem (by omega),List.getElem?_eq_getElem (show n<xs.length by omega)] at hne
   rw[List.getElem?_eq_getElem (by omega)]
   rw[List.pairwise_append]
   refine⟨ih,by simp,fun x hx y hy => ?_⟩
   obtain rfl:y=xs[n+1]:=by simpa using hy
   rw[compN_mem] at hx
   obtain⟨i,hi,rfl⟩:=List.getElem_of_mem hx
   have hi':i<n+1:=by simp at hi;omega
   rw[List.getElem_take]
   rw[List.pairwise_iff_getElem] at hs
   have h1:¬cmpL xs[n+1] xs[n]<0:=hs n (n+1) (by omega) (by omega) (by omega)
   have h3:cmpL xs[n] xs[n+1]<0:=by
    by_cases c:cmpL xs[n] xs[n+1]<0
    ·exact c
    ·exact absurd (congrArg some (cmpL_anti _ _ h1 c)) hne
   by_cases e:i=n
   ·subst e;exact h3
   ·have h2:¬cmpL xs[n] xs[i]<0:=hs i n (by omega) (by omega) (by omega)
    by_cases c:cmpL xs[i] xs[n]<0
    ·exact cmpL_trans _ _ _ c h3
    ·rw[cmpL_anti _ _ c h2];exact h3
theorem compN_two (xs:List (List Int)) (n:Nat):compN xs (n+2)=if xs[n+1]?=xs[n]? then compN xs (n+1) else compN xs (n+1) ++ xs[n+1]?.toList:=by rw[compN]
theorem rows_compact (b cap:Nat) (xs:List (List Int)) (hx:∀x ∈ xs,x.length≤1000000) (hl:xs.length≤1000000) :
  MCalls Proofs.Tryz.prog 169 [.ls b 1 0 xs.length cap,.v (.func (.func 170) #[] #[])] [(b,.row 43 1 (xs.map aInts) cap)]
   fun r L'=>∃ws cap',r = .ls b 1 0 (compL xs).length cap'∧L'=[(b,.row 43 1 ((compL xs).map aInts ++ ws) cap)]:=by
 refine MCalls.enter' 66 [.tmp 4] [] Proofs.Tryz.func169 rfl rfl rfl rfl rfl (by simp) (AWp.of ?_);simp only[go_sem]
 refine AWp.capOk (b:=b) (if_pos rfl) fun hcap => ?_
 rw[List.length_map] at hcap
 refine Wk ?_
 refine⟨fun h => ?_,fun h => ?_⟩
 ·refine Wk ?_
  refine ret_own ?_
  simp only[go_sem]
  have e:compL xs=xs:=by
   unfold compL
   rw[compN_all (Nat.le_refl _) (fun i h0 hi=>by omega),List.take_length]
  exact⟨[],cap,by rw[e],by rw[e,List.append_nil]⟩
 ·refine Wk ?_
  refine AWp.block (AWp.loopN [5] [0,1] (fun m vs L=>∃k:Nat,vs=[ai k]∧1≤k∧k≤xs.length∧m=xs.length - k∧L=[(b,.row 43 1 (xs.map aInts) cap)]∧∀(i:Nat),0<i→i<k→xs[i]? ≠ xs[i - 1]?) (xs.length - 1) ⟨1,rfl,by omega,by omega,rfl,rfl,fun i h1 h2=>by omega⟩ ?_)
  rintro m vs L - ⟨k,rfl,k1,k2,rfl,rfl,hI⟩
  simp only[go_sem]
  refine Wk ?_
  refine⟨fun h1 => ?_,fun h1 => ?_⟩
  ·have hk:k<xs.length:=by omega
   have hk1:k - 1<xs.length:=by omega
   refine Wk ?_
   refine AWp.seq (AWp.block (AWp.seq ?_))
   have hkm:((k:Int) - 1).toNat=k - 1:=by omega
   have sm:=next_same xs[k] xs[k - 1] (hx _ (List.getElem_mem hk))
   simp only[go_sem] at sm
   repeat(first|(with_reducible refine AWp.seq ?_)|(with_reducible refine AWp.block ?_))
   refine AWp.read mixed [0,1,2,3,4,5,6,7,8,9,10] (by kernel_rfl) ?_;simp only[go_sem,getD_map hk,getD_map hk1,hkm]
   refine Sd ?_
   refine GCall.use (ab (decide (xs[k]=xs[k - 1]))) (fun _=>⟨At,sm.val.use ⟨rfl,rfl⟩⟩) ?_
   simp only[go_sem]
   refine Wk ?_
   refine⟨fun h2 => ?_,fun h2 => ?_⟩
   ·have c0:compN xs (k+1)=xs.take k:=by
     obtain⟨j,rfl⟩:∃j,k=j+1:=⟨k - 1,by omega⟩
     rw[compN_two,if_pos (by rw[List.getElem?_eq_getElem hk,List.getElem?_eq_getElem (show j<xs.length by omega)];exact congrArg some h2)]
     exact compN_all (by omega) hI
    refine Wk ?_
    refine AWp.block (AWp.loopN [5,7] [0,1,6] (fun m vs L=>∃(q:Nat) (c zs:List (List Int)),vs=[ai c.length,ai q]∧1≤q∧k+q≤xs.length∧c=compN xs (k+q)∧c.length≤k+q - 1∧zs=c ++ xs.drop c.length∧m=xs.length - (k+q) ∧
     L=[(b,.row 43 1 (zs.map aInts) cap)]) (xs.length - (k+1)) ⟨1,xs.take k,xs,by rw[List.length_take,Nat.min_eq_left k2];rfl,by omega,by omega,c0.symm,by rw[List.length_take];omega,by rw[List.length_take,Nat.min_eq_left k2,List.take_append_drop],rfl,rfl⟩ ?_)
    rintro m vs L - ⟨q,c,zs,rfl,q1,q2,hc,hcl,hz,rfl,rfl⟩
    have zl:zs.length=xs.length:=by rw[hz,List.length_append,List.length_drop];omega
    have zg:∀(i:Nat) (h1:i<xs.length),c.length≤i→(zs.map aInts).getD i .any=aInts xs[i]:=fun i h1 h2=>by
     rw[getD_map (by omega)]
     subst hz
     rw[List.getElem_append_right h2,List.getElem_drop]
     congr 2;omega
    simp only[go_sem]
    refine Wk ?_
    refine⟨fun h3 => ?_,fun h3 => ?_⟩
    ·have hkq:k+q<xs.length:=by omega
     have hkq1:k+q - 1<xs.length:=by omega
     have g1:=zg (k+q) hkq (by omega)
     have g2:=zg (k+q - 1) hkq1 (by omega)
     have e1:((q:Int) - 1).toNat=q - 1:=by omega
     have e2:k+(q - 1)=k+q - 1:=by omega
     have sm:=next_same xs[k+q] xs[k+q - 1] (hx _ (List.getElem_mem hkq))
     simp only[go_sem] at sm
     refine Wk ?_
     refine AWp.seq (AWp.block (AWp.seq ?_))
     repeat(first|(with_reducible refine AWp.seq ?_)|(with_reducible refine AWp.block ?_))
     refine AWp.read mixed [0,1,2,3,4,5,6,7,8,9,10,11] (by kernel_rfl) ?_;simp only[go_sem,g1,g2,e1,e2]
     refine Sd ?_
     refine GCall.use (ab (decide (xs[k+q]=xs[k+q - 1]))) (fun _=>⟨At,sm.val.use ⟨rfl,rfl⟩⟩) ?_
     simp only[go_sem]
     have hq':k+q - 2+1=k+q - 1:=by omega
     have hstep:compN xs (k+(q+1))=if xs[k+q]?=xs[k+q - 1]? then c else c ++ xs[k+q]?.toList:=by
      rw[show k+(q+1)=(k+q - 1)+2 by omega,compN_two,show k+q - 1+1=k+q by omega,← hc]
     rw[List.getElem?_eq_getElem hkq,List.getElem?_eq_getElem hkq1] at hstep
     have g0:=zg c.length (by omega) (Nat.le_refl _)
     refine W5 g1 g2 e1 e2 g0 ?_
     refine⟨fun h4 => ?_,fun h4 => ?_⟩
     ·rw[if_neg (fun e=>h4 (Option.some.inj e))] at hstep
      refine W5 g1 g2 e1 e2 g0 ?_
      refine⟨_,List.Sublist.refl _,_,?_,q+1,c ++ [xs[k+q]],zs.set c.length xs[k+q],?_,by omega,by omega,hstep.symm,by simp;omega,?_,rfl,?_⟩
      ·omega
      ·rw[List.length_append];rfl
      ·rw[hz,List.set_append_right _ _ (Nat.le_refl _),Nat.sub_self,List.drop_eq_getElem_cons (show c.length<xs.length by omega),List.set_cons_zero,List.append_assoc,List.length_append];rfl
      ·rw[List.map_set];rfl
     ·rw[if_pos (congrArg some h4)] at hstep
      refine Wk ?_
      exact⟨_,List.Sublist.refl _,_,by omega,q+1,c,zs,rfl,by omega,by omega,hstep.symm,by omega,hz,rfl,rfl⟩
    ·have hn:k+q=xs.length:=by omega
     have hcl2:compL xs=c:=by unfold compL;rw[← hn,hc]
     have hcx:c.length≤xs.length:=by omega
     refine Wk ?_
     refine ret_own ?_
     simp only[go_sem]
     refine⟨List.replicate (xs.length - c.length) anil,cap,by rw[hcl2],?_⟩
     rw[hcl2,List.length_replicate,show c.length+(xs.length - c.length)=zs.length by omega,List.drop_length,List.map_nil,List.append_nil,hz,List.take_left]
   ·refine Wk ?_
    refine⟨_,List.Sublist.refl _,_,?_,k+1,rfl,by omega,by omega,rfl,rfl,fun i h0 hi => ?_⟩
    ·omega
    ·by_cases e:i=k
     ·subst e;rw[List.getElem?_eq_getElem hk,List.getElem?_eq_getElem hk1];exact fun e=>h2 (Option.some.inj e)
     ·exact hI i h0 (by omega)
  ·refine Wk ?_
   refine ret_own ?_
   simp only[go_sem]
   have e:compL xs=xs:=by
    unfold compL
    rw[compN_all (Nat.le_refl _) (fun i h0 hi=>hI i h0 (by omega)),List.take_length]
   exact⟨[],cap,by rw[e],by rw[e,List.append_nil]⟩
section
variable {E:Elim} {p q m k:Nat}
end
theorem stC_ok {ps:List Pr} {p:Nat} {k:Int} (hp:p<ps.length) (h0:0≤k) (hk:k≤ps[p].evs.length):(stC ps.length p k).length=ps.length∧inRangeF ps (stC ps.length p k)=true:=by
 have hl:(stC ps.length p k).length=ps.length:=by unfold stC;rw[List.length_set,List.length_replicate]
 refine⟨hl,?_⟩
 rw[inRange_iff hl]
 intro q hq
 unfold cAt stC
 rw[Int.toNat_natCast,getD_set0]
 split
 ·rename_i e;obtain⟨rfl,_⟩:=e;omega
 ·rw[List.getD_eq_getElem?_getD,List.getElem?_replicate,if_pos hq]
  exact⟨Int.le_refl 0,by simp⟩
theorem ref25_Index (ps:List Pr) (hs:Sm ps) (p:Int) (hpb:isPB ps.length p=true) (s:ByteArray):PC Proofs.Tryz.prog 184 [aTr ps,ai p,astr s] (ai (varX ps p s)):=by
 obtain⟨p,rfl,hp⟩:=isPB_nat hpb
 rw[varX_get hp]
 have hm:=List.getElem_mem hp
 have hvl:=hs.vars _ hm
 have hgp:=getD_map (f:=aPr) hp
 have hhit:∀i (hi:i<ps[p].vars.length),(∀j (hj:j<ps[p].vars.length),j<i→nmB s ps[p].vars[j]=false)→nmB s ps[p].vars[i]=true→varIx ps[p].vars s=i:=by
  intro i hi h0 h1
  have:ps[p].vars.findIdx? (nmB s)=some i:=by rw[List.findIdx?_eq_some_iff_getElem];exact⟨hi,h1,fun j hj=>by simpa using h0 j (by omega) hj⟩
  unfold varIx;rw[this]
 have hno:(∀j (hj:j<ps[p].vars.length),nmB s ps[p].vars[j]=false)→varIx ps[p].vars s = -1:=by
  intro h0
  have:ps[p].vars.findIdx? (nmB s)=none:=by
   rw[List.findIdx?_eq_none_iff];intro x hx;obtain⟨i,hi,rfl⟩:=List.getElem_of_mem hx;exact h0 i hi
  unfold varIx;rw[this]
 generalize varIx ps[p].vars s=r at *
 refine PC.enter 29 [.tmp 6] [3] Proofs.Tryz.func184 rfl rfl rfl rfl rfl (by simp) (AWp.of ?_);simp only[go_sem]
 refine W1 hgp ?_
 refine AWp.block (AWp.count 8 ps[p].vars.length [] [2,7] (fun i vs L=>L=[]∧∀j (hj:j<ps[p].vars.length),j<i→nmB s ps[p].vars[j]=false) rfl rfl ⟨rfl,by omega⟩ ?_)
 rintro i vs L hi - ⟨rfl,hI⟩
 simp only[go_sem]
 refine Wk ?_
 refine⟨fun h1 => ?_,fun h1 => ?_⟩
 ·have hiv:i<ps[p].vars.length:=by omega
  have hgv:=getD_map (f:=aVar) hiv
  refine W1 hgv ?_
  refine⟨fun h2 => ?_,fun h2 => ?_⟩
  ·refine Wk ?_
   refine ret_eq ?_;simp only[go_sem]
   rw[hhit i hiv hI (decide_eq_true h2)]
  ·refine Wk ?_
   refine⟨_,List.Sublist.refl _,rfl,fun j hj hji => ?_⟩
   by_cases e:j=i
   ·subst e;exact decide_eq_false h2
   ·exact hI j hj (by omega)
 ·refine Wk ?_
  refine ret_eq ?_;simp only[go_sem]
  rw[hno fun j hj=>hI j hj (by omega)]
def leafR (ps:List Pr) (c:List Int) (o:Obs):Pd→Prop
 | .mk k _ p _ s _=>(k=2→∃ix cv:Int,PC Proofs.Tryz.prog 184 [aTr ps,ai p,astr s] (ai ix)∧PC Proofs.Tryz.prog 183 [aTr ps,ai p,ai ix,ai cv] (ai (o.var p s))∧0≤p∧c[p.toNat]?=some cv)∧(k=3→0≤p∧c[p.toNat]?=some (o.cnt p))∧(k=4→False)
theorem lcl_mk (pr k n p q:Int) (s:ByteArray) (l:List Pd):lclB pr (.mk k n p q s l)=if k=4∨(18≤k∧k≤21) then false else if k=2∨k=3 then decide (p=pr) else true:=rfl
theorem evaluate_local (pr:Int) (t:Pd):szF t≤1000000→allB locB t=true→PC Proofs.Tryz.prog 71 [ai pr,aPd t] (ab (allB (lclB pr) t)):=by
 induction t using Pd.ind with
 | _ k n p q s l ih =>
 intro hz ht
 have hsz:szF (.mk k n p q s l)=szL l+1:=by rw[szF]
 have hll:=szL_len l
 obtain⟨ht1,ht2⟩:=allB_sub ht
 obtain⟨hpl,_⟩:=loc_len ht1
 have hsp:allB (lclB pr) (.mk k n p q s l)=((if k=4∨(18≤k∧k≤21) then false else if k=2∨k=3 then decide (p=pr) else true) && l.all (allB (lclB pr))):=by rw[allB_mk,lcl_mk]
 have h1:∀x ∈ l,PV Proofs.Tryz.prog (.clo 109 [.rp 1 [ai pr] 0 0]) [aPd x] (ab (!allB (lclB pr) x)):=by
  intro x hx
  have hxi:=szL_mem hx
  have hch:=ih x hx (by omega) (ht2 x hx)
  generalize allB (lclB pr) x=b at *
  obtain⟨k2,n2,p2,q2,s2,l2⟩:=x
  refine PC.clo ?_
  simp only[aPd_mk] at *
  refine PC.enter 8 [.tmp 3] [2] Proofs.Tryz.func109 rfl rfl rfl rfl rfl (by simp) (AWp.of ?_);simp only[go_sem]
  refine Wk ?_
  refine Sd ?_
  refine(hch).val.use ?_;simp only[go_sem]
  refine Wk ?_
  refine ret_eq ?_;simp only[go_sem]
 have hc:=preds_containsFunc l (by omega) _ rfl (fun x => !allB (lclB pr) x) h1
 have hall:l.all (allB (lclB pr)) = !l.any fun x => !allB (lclB pr) x:=by rw[List.all_eq_not_any_not]
 rw[hall] at hsp
 clear h1 ih
 by_cases c1:k=4∨k=18∨k=19∨k=20∨k=21
 ·rw[if_pos (by omega),Bool.false_and] at hsp
  rw[hsp]
  clear hsp hall hc
  simp only[aPd_mk] at *
  rcases c1 with rfl|rfl|rfl|rfl|rfl
  all_goals refine PC.enter 25 [.tmp 4] [2,3] Proofs.Tryz.func71 rfl rfl rfl rfl rfl (by simp) (AWp.of ?_);simp only[go_sem]
  all_goals repeat(first|((with_reducible refine AWp.ofC ?_ ?_);exact rfl;simp only[go_sem,Int.reduceEq])|((with_reducible refine an ?_ ?_);exact Au))
  all_goals refine ret_eq ?_;simp only[go_sem]
 rw[if_neg (by omega)] at hsp
 by_cases c2:k=2∨k=3
 ·have hl0:l=[]:=by
   have:partsF k=0:=by rcases c2 with rfl|rfl <;> rfl
   exact len0 (by omega)
  subst hl0
  rw[if_pos c2] at hsp
  simp only[List.any_nil,Bool.not_false,Bool.and_true] at hsp
  rw[hsp]
  clear hsp hall hc
  simp only[aPd_mk] at *
  rcases c2 with rfl|rfl
  all_goals refine PC.enter 25 [.tmp 4] [2,3] Proofs.Tryz.func71 rfl rfl rfl rfl rfl (by simp) (AWp.of ?_);simp only[go_sem]
  all_goals repeat(first|((with_reducible refine AWp.ofC ?_ ?_);exact rfl;simp only[go_sem,Int.reduceEq])|((with_reducible refine an ?_ ?_);exact Au))
  all_goals refine ret_eq ?_;simp only[go_sem]
 rw[if_neg c2,Bool.true_and] at hsp
 rw[hsp]
 generalize (l.any fun x => !allB (lclB pr) x)=b at *
 clear hsp hall
 have a4:¬k=4:=by omega
 have a18:¬k=18:=by omega
 have a19:¬k=19:=by omega
 have a20:¬k=20:=by omega
 have a21:¬k=21:=by omega
 have a2:¬k=2:=by omega
 have a3:¬k=3:=by omega
 simp only[aPd_mk] at *
 refine PC.enter 25 [.tmp 4] [2,3] Proofs.Tryz.func71 rfl rfl rfl rfl rfl (by simp) (AWp.of ?_);simp only[go_sem]
 repeat(first|((with_reducible refine AWp.ofC ?_ ?_);exact rfl;simp only[go_sem,a2,a3,a4,a18,a19,a20,a21])|((with_reducible refine an ?_ ?_);exact Au))
 refine Sd ?_
 refine(hc).val.use ?_;simp only[go_sem]
 refine Wk ?_
 refine ret_eq ?_;simp only[go_sem]
theorem evaluate_check (ps:List Pr) (hs:Sm ps) (pr k:Int) (t:Pd) (hz:szF t≤1000000):PC Proofs.Tryz.prog 37 [aTr ps,ai pr,ai k,aPd t] (ai (lclF ps pr k t)):=by
 have h1:=predtype_Check ps hs t hz
 have h2:=fun a b=>evaluate_typed t hz a b 2
 have h3:=fun a=>evaluate_local pr t hz a
 have hl:=hs.procs
 have hel:=fun x hx=>hs.evs x hx
 have hck:checkF ps t=0→formedB t=true∧typedB t=true∧allB locB t=true:=fun h=>by
  obtain⟨_,f2,f3,_⟩:=checkF_zero h
  unfold okT at f3
  simp only[Bool.and_eq_true] at f3
  exact⟨f2,f3.2,f3.1.1⟩
 have hn1:checkF ps t=0→1≤ps.length:=fun h=>(valid_len (checkF_zero h).1).1
 have hE:lclF ps pr k t=if checkF ps t ≠ 0 then checkF ps t else if ¬(0≤pr∧pr<ps.length∧0≤k∧k≤evN ps pr) then 2 else if t.kind≤8 then 14 else if allB (lclB pr) t=false then 15 else 0:=rfl
 have hr:resF t.kind=2↔¬t.kind≤8:=by unfold resF;split <;> omega
 generalize lclF ps pr k t=E at *
 generalize checkF ps t=e at *
 generalize formedB t=f at *
 generalize typedB t=y at *
 generalize allB locB t=lb at *
 generalize allB (lclB pr) t=a at *
 generalize t.kind=kd at *
 obtain⟨k0,n,p,q,s,l⟩:=t
 simp only[aPd_mk] at *
 by_cases he:e=0
 ·subst he
  rw[if_neg (by decide)] at hE
  obtain⟨c1,c2,c3⟩:=hck rfl
  have hn1:=hn1 rfl
  have h2:=h2 c1 c2
  have h3:=h3 c3
  by_cases hp:0≤pr∧pr<ps.length
  ·obtain⟨i,rfl⟩:∃i:Nat,pr=i:=⟨pr.toNat,by omega⟩
   have hpi:i<ps.length:=by omega
   have hgp:=getD_map (f:=aPr) hpi
   rw[evN_get hpi] at hE
   have n1:¬(i:Int)<0:=by omega
   have n2:¬(ps.length:Int)≤i:=by omega
   by_cases hk:0≤k∧k≤ps[i].evs.length
   ·rw[if_neg (by omega)] at hE
    have n3:¬k<0:=by omega
    have n4:¬(ps[i].evs.length:Int)<k:=by omega
    by_cases hk8:kd≤8
    ·rw[if_pos hk8] at hE
     rw[if_neg (fun h=>hr.1 h hk8)] at h2
     refine PC.enter 50 [.tmp 8] [4,7] Proofs.Tryz.func37 rfl rfl rfl rfl rfl (by simp) (AWp.of ?_);simp only[go_sem]
     refine Wk ?_
     refine Sd ?_
     refine(h1).val.use ?_;simp only[go_sem]
     refine W5 n1 n2 n3 n4 hgp ?_
     refine Sd ?_
     refine(h2).val.use ?_;simp only[go_sem]
     repeat(first|((with_reducible refine AWp.ofC ?_ ?_);exact rfl;simp only[go_sem,Int.reduceEq])|((with_reducible refine an ?_ ?_);exact Au))
     refine ret_eq ?_;simp only[go_sem]
     rw[hE]
    rw[if_neg hk8] at hE
    rw[if_pos (hr.2 hk8)] at h2
    refine PC.enter 50 [.tmp 8] [4,7] Proofs.Tryz.func37 rfl rfl rfl rfl rfl (by simp) (AWp.of ?_);simp only[go_sem]
    refine Wk ?_
    refine Sd ?_
    refine(h1).val.use ?_;simp only[go_sem]
    refine W5 n1 n2 n3 n4 hgp ?_
    refine Sd ?_
    refine(h2).val.use ?_;simp only[go_sem]
    repeat(first|((with_reducible refine AWp.ofC ?_ ?_);exact rfl;simp only[go_sem])|((with_reducible refine an ?_ ?_);exact Au))
    refine Sd ?_
    refine(h3).val.use ?_;simp only[go_sem]
    refine Wk ?_
    refine⟨fun h5 => ?_,fun h5 => ?_⟩
    ·rw[if_pos h5] at hE
     refine Wk ?_
     refine ret_eq ?_;simp only[go_sem]
     rw[hE]
    ·rw[if_neg (by rw[h5];decide)] at hE
     refine Wk ?_
     refine ret_eq ?_;simp only[go_sem]
     rw[hE]
   ·rw[if_pos (by omega)] at hE
    refine PC.enter 50 [.tmp 8] [4,7] Proofs.Tryz.func37 rfl rfl rfl rfl rfl (by simp) (AWp.of ?_);simp only[go_sem]
    refine Wk ?_
    refine Sd ?_
    refine(h1).val.use ?_;simp only[go_sem]
    refine W3 n1 n2 hgp ?_
    refine⟨fun h5 => ?_,fun h5 => ?_⟩
    ·refine Wk ?_
     refine ret_eq ?_;simp only[go_sem]
     rw[hE]
    ·intros;omega
  ·rw[if_pos (by omega)] at hE
   by_cases hp0:pr<0
   ·have hgx:(ps.map aPr).getD pr.toNat .any=aPr (ps[0]'(by omega)):=by
     rw[show pr.toNat=0 by omega];exact getD_map (by omega)
    refine PC.enter 50 [.tmp 8] [4,7] Proofs.Tryz.func37 rfl rfl rfl rfl rfl (by simp) (AWp.of ?_);simp only[go_sem]
    refine Wk ?_
    refine Sd ?_
    refine(h1).val.use ?_;simp only[go_sem]
    refine W2 hp0 hgx ?_
    refine ret_eq ?_;simp only[go_sem]
    rw[hE]
   ·have hp1:(ps.length:Int)≤pr:=by omega
    have hgx:(ps.map aPr).getD pr.toNat .any = .any:=by
     rw[List.getD_eq_getElem?_getD,List.getElem?_eq_none (by rw[List.length_map];omega)];rfl
    refine PC.enter 50 [.tmp 8] [4,7] Proofs.Tryz.func37 rfl rfl rfl rfl rfl (by simp) (AWp.of ?_);simp only[go_sem]
    refine Wk ?_
    refine Sd ?_
    refine(h1).val.use ?_;simp only[go_sem]
    repeat(first|((with_reducible refine AWp.ofC ?_ ?_);exact rfl;simp only[go_sem,hp0,hp1,hgx,List.getD_nil])|((with_reducible refine an ?_ ?_);exact Au))
    refine ret_eq ?_;simp only[go_sem]
    rw[hE]
 ·rw[if_pos he] at hE
  refine PC.enter 50 [.tmp 8] [4,7] Proofs.Tryz.func37 rfl rfl rfl rfl rfl (by simp) (AWp.of ?_);simp only[go_sem]
  refine Wk ?_
  refine Sd ?_
  refine(h1).val.use ?_;simp only[go_sem]
  refine W1 he ?_
  refine ret_eq ?_;simp only[go_sem]
  rw[hE]
theorem stC_len (n p:Nat) (k:Int):(stC n p k).length=n:=by unfold stC;rw[List.length_set,List.length_replicate]
theorem stC_get {n p:Nat} {k:Int} (hp:p<n):(stC n p k).getD p 0=k:=by
 unfold stC;rw[List.getD_eq_getElem?_getD,List.getElem?_set_self (by simpa using hp)];rfl
theorem stC_get? {n p:Nat} {k:Int} (hp:p<n):(stC n p k)[p]?=some k:=by
 unfold stC;rw[List.getElem?_set_self (by simpa using hp)]
def stV (n p:Nat) (st:List Int):List (List Int):=(List.replicate n []).set p st
theorem stV_len (n p:Nat) (st:List Int):(stV n p st).length=n:=by unfold stV;rw[List.length_set,List.length_replicate]
theorem stV_get {n p:Nat} {st:List Int} (hp:p<(stV n p st).length):(stV n p st)[p]=st:=by simp [stV]
theorem st_leaf (ps:List Pr) (hs:Sm ps) (hv:validF ps=true) (p k:Nat) (hp:p<ps.length) (hk:k≤ps[p].evs.length) (t:Pd) (hr:allB (resB ps) t=true) (hn:allB (lclB p) t=true) :
  AllP (leafOk ps (stC ps.length p k) (stV ps.length p (stateAt ps[p] k)) (stO ps p k)) t∧AllP (obsB ps (stO ps p k)) t∧AllP (leafR ps (stC ps.length p k) (stO ps p k)) t:=by
 have hb:=allB_and t hr hn
 have hvar:∀s,(stO ps p k).var p s=(stateAt ps[p] k).getD (varIx ps[p].vars s).toNat 0:=fun s=>by
  unfold stO cutO;simp only[Int.toNat_natCast,List.getElem?_eq_getElem hp,stC_get hp]
 have hcnt:(stO ps p k).cnt p=k:=by
  unfold stO cutO;simp only[Int.toNat_natCast,stC_get hp]
 have hx:∀x:Pd,andB (resB ps) (lclB p) x=true→∀kk n pr q s l,x = .mk kk n pr q s l→((kk=2∨kk=3)→pr=p)∧kk ≠ 4∧(kk=2→knownB ps pr s=true):=fun x h kk n pr q s l e=>by
  subst e
  unfold andB at h
  rw[Bool.and_eq_true] at h
  have h2:=h.2
  rw[lcl_mk] at h2
  have n4:¬(kk=4∨(18≤kk∧kk≤21)):=fun h=>by rw[if_pos h] at h2;cases h2
  rw[if_neg n4] at h2
  refine⟨fun e => ?_,by omega,fun e=>((res_leaf h.1).1 e).2⟩
  rw[if_pos e] at h2
  simpa using h2
 refine⟨AllP_of_allB (fun x h => ?_) t hb,AllP_of_allB (fun x h => ?_) t hb,AllP_of_allB (fun x h => ?_) t hb⟩
 ·obtain⟨kk,n,pr,q,s,l⟩:=x
  obtain⟨g1,g2,g3⟩:=hx _ h _ _ _ _ _ _ rfl
  refine⟨fun e => ?_,fun e => ?_,fun e=>absurd e g2⟩
  ·obtain rfl:=g1 (.inl e)
   have hV:p<(stV ps.length p (stateAt ps[p] k)).length:=by rw[stV_len];exact hp
   have h:=view_variable ps hs (stC ps.length p k) (stV ps.length p (stateAt ps[p] k)) kk n p q s l hp (g3 e) hV (by rw[stV_get hV,stateAt_length])
   rw[stV_get hV] at h
   rw[hvar];exact h
  ·obtain rfl:=g1 (.inr e)
   exact⟨by omega,by rw[hcnt,Int.toNat_natCast,stC_get? hp]⟩
 ·obtain⟨kk,n,pr,q,s,l⟩:=x
  obtain⟨g1,g2,g3⟩:=hx _ h _ _ _ _ _ _ rfl
  refine⟨fun e => ?_,fun e => ?_,fun e=>absurd e g2⟩
  ·obtain rfl:=g1 (.inl e)
   have hm:=valsF_mem ps[p] (varIx ps[p].vars s).toNat (k:=k) hk
   rw[hvar]
   unfold varLo varHi
   simp only[Int.toNat_natCast,List.getElem?_eq_getElem hp]
   exact⟨minL_le hm,le_maxL hm⟩
  ·obtain rfl:=g1 (.inr e)
   rw[hcnt,evN_get hp]
   exact⟨by omega,by omega⟩
 ·obtain⟨kk,n,pr,q,s,l⟩:=x
  obtain⟨g1,g2,g3⟩:=hx _ h _ _ _ _ _ _ rfl
  refine⟨fun e => ?_,fun e => ?_,g2⟩
  ·obtain rfl:=g1 (.inl e)
   have hpb:isPB ps.length p=true:=by unfold isPB;simp;omega
   have h1:=ref25_Index ps hs p hpb s
   rw[varX_get hp] at h1
   obtain⟨i,hi,hil⟩:=known_ix (known_get hp (g3 e))
   have h2:=ref25_Value ps hs p hp i hil k hk (asg_of_valid hv p hp) (dis_of_valid hv p hp)
   rw[hi] at h1
   refine⟨_,_,h1,?_,by omega,by rw[Int.toNat_natCast,stC_get? hp]⟩
   rw[hvar,hi,Int.toNat_natCast,List.getD_eq_getElem?_getD,List.getElem?_eq_getElem (by rw[stateAt_length];exact hil)]
   exact h2
  ·obtain rfl:=g1 (.inr e)
   exact⟨by omega,by rw[hcnt,Int.toNat_natCast,stC_get? hp]⟩
theorem variable_State (ps:List Pr) (hs:Sm ps) (hv:validF ps=true) (p k:Nat) (hp:p<ps.length) (hk:k≤ps[p].evs.length):PC Proofs.Tryz.prog 72 [aTr ps,ai p,ai k] (.tup [aInts (stateAt ps[p] k),ai 0]):=by
 have hm:=List.getElem_mem hp
 have h1:=trace_Valid ps hs
 rw[hv] at h1
 have h2:=variable_state ps[p] (hs.vars _ hm) (hs.evs _ hm) (hs.asg _ hm) (asg_of_valid hv p hp) k hk
 have hl:=hs.procs
 have hel:=hs.evs _ hm
 have hgp:=getD_map (f:=aPr) hp
 have n1:¬(p:Int)<0:=by omega
 have n2:¬(ps.length:Int)≤p:=by omega
 have n3:¬(k:Int)<0:=by omega
 have n4:¬(ps[p].evs.length:Int)<k:=by omega
 generalize stateAt ps[p] k=S at *
 refine PC.enter 44 [.tmp 6,.tmp 7] [3] Proofs.Tryz.func72 rfl rfl rfl rfl rfl (by simp) (AWp.of ?_);simp only[go_sem]
 refine Wk ?_
 refine Sd ?_
 refine(h1).val.use ?_;simp only[go_sem]
 refine W5 n1 n2 n3 n4 hgp ?_
 refine Sd ?_
 refine(h2).val.use ?_;simp only[go_sem]
 refine Wk ?_
 refine ret_eq ?_;simp only[go_sem]
theorem lcl_ntm {p:Int} (t:Pd):allB (lclB p) t=true→allB ntmB t=true:=by
 induction t using Pd.ind with
 | _ k n pr q s l ih =>
 intro h
 obtain⟨h1,h2⟩:=allB_sub h
 rw[allB_mk,Bool.and_eq_true,List.all_eq_true]
 refine⟨?_,fun x hx=>ih x hx (h2 x hx)⟩
 rw[lcl_mk] at h1
 unfold ntmB tempB
 split at h1
 ·cases h1
 ·rename_i h;simp;omega
theorem lcl_ok {ps:List Pr} {p:Nat} {k:Int} {t:Pd} (h:lclF ps p k t=0):checkF ps t=0∧p<ps.length∧0≤k∧k≤evN ps p∧9≤t.kind∧allB (lclB p) t=true:=by
 unfold lclF at h
 split at h
 ·rename_i h1;exact absurd h h1
 ·rename_i h1
  split at h
  ·cases h
  ·rename_i h2
   split at h
   ·cases h
   ·rename_i h3
    split at h
    ·cases h
    ·rename_i h4
     exact⟨by simpa using h1,by omega,by omega,by omega,by omega,by simpa using h4⟩
theorem evaluate_inState (ps:List Pr) (hs:Sm ps) (p k:Nat) (hp:p<ps.length) (hk:k≤ps[p].evs.length) (t:Pd) (hz:szF t≤1000000) (hc:checkF ps t=0) (h9:9≤t.kind) (hl:allB (lclB p) t=true) :
  PC Proofs.Tryz.prog 38 [aTr ps,ai p,ai k,aPd t] (ab (lclT ps p t k)):=by
 obtain⟨hv,_,hok,hfit⟩:=checkF_zero hc
 have hok':=hok
 unfold okT at hok'
 simp only[Bool.and_eq_true] at hok'
 obtain⟨l1,l2,_⟩:=st_leaf ps hs hv p k hp hk t hok'.1.2 hl
 have hn:=hs.procs
 have h1:=view_truth ps (stC ps.length p k) (stV ps.length p (stateAt ps[p] k)) (stO ps p k) (by rw[stC_len];omega) t hz hok h9 hfit (lcl_ntm t hl) l2 l1
 have h2:=variable_State ps hs hv p k hp hk
 unfold lclT
 generalize truF (stO ps p k) t=b at *
 obtain⟨kk,n,pr,q,s,l⟩:=t
 have hC:(stC ps.length p k).map ai=(List.replicate ps.length (ai 0)).set p (ai k):=by unfold stC;rw[List.map_set,List.map_replicate]
 have hTr:aTr ps = .agg [aPrs ps]:=rfl
 generalize hS:stateAt ps[p] k=S at *
 simp only[aPd_mk] at *
 refine PC.enter 39 [.tmp 8] [4,7,9] Proofs.Tryz.func38 rfl rfl rfl rfl rfl (by simp) (AWp.of ?_);simp only[go_sem]
 refine Wk ?_
 refine AWp.cut [1,2,4,7,9] (fun vs L=>∃bc bv,L.Perm [(bv,.row 43 1 (List.replicate ps.length anil) ps.length),(bc,.row 3 1 (List.replicate ps.length (ai 0)) ps.length)] ∧
  vs=[ai p,ai k,.rp 1 [aTr ps] 0 0,.rp 6 [.agg [ai kk,ai n,ai pr,ai q,astr s,.sl 6 (l.map aPd)]] 0 0,.rp 3 [.agg [aPrs ps,.ls bc 1 0 ps.length ps.length,.ls bv 1 0 ps.length ps.length]] 0 0]) ?_ ?_
 ·repeat(first|(with_reducible refine AWp.seq ?_)|(with_reducible refine AWp.block ?_))
  refine AWp.mix mixed [0,1,2,3,5,6,7] (.step 4 (.step 8 (.step 9 (.step 10 (.step 11 .done .done) .done) (.step 10 (.step 9 (.step 11 .done .done) .done) .done)) (.step 10 (.step 8 (.step 9 (.step 11 .done .done) .done) .done) .done)) (.step 8 (.step 4 (.step 9 (.step 10 (.step 11 .done .done) .done) (.step 10 (.step 9 (.step 11 .done .done) .done) .done)) (.step 10 (.step 4 (.step 9 (.step 11 .done .done) .done) .done) .done)) (.step 10 (.step 4 (.step 8 (.step 9 (.step 11 .done .done) .done) .done) (.step 8 (.step 4 (.step 9 (.step 11 .done .done) .done) .done) .done)) .done))) (by kernel_rfl) ?_;simp only[go_sem]
  repeat' (first|(with_reducible refine And.intro ?_ ?_)|intro _)
  all_goals first|omega|skip
  all_goals ((repeat rw[if_neg (by omega)]);(try simp only[go_sem]))
  all_goals (repeat' (first|(with_reducible refine And.intro ?_ ?_)|intro _))
  all_goals first|omega|exact⟨_,List.Sublist.refl _,_,_,.refl _,rfl⟩|exact⟨_,List.Sublist.refl _,_,_,.swap _ _ _,rfl⟩
 ·rintro vs L - ⟨bc,bv,hP,rfl⟩
  refine AWp.perm hP (AWp.nodup fun hnd => ?_)
  have n1:¬bv=bc:=by simpa using hnd
  have n2:¬bc=bv:=fun e=>n1 e.symm
  have hg0:(List.replicate ps.length (ai 0)).getD p .any=ai 0:=by rw[List.getD_eq_getElem?_getD,List.getElem?_replicate,if_pos hp];rfl
  have hg1:(List.replicate ps.length anil).getD p .any=anil:=by rw[List.getD_eq_getElem?_getD,List.getElem?_replicate,if_pos hp];rfl
  simp only[go_sem]
  refine Sd ?_
  refine AWp.of ?_;simp only[go_sem,n2,hg0,List.length_replicate]
  refine Sd ?_
  rw[← hC]
  refine AWp.seq ?_
  repeat(first|(with_reducible refine AWp.seq ?_)|(with_reducible refine AWp.block ?_))
  refine AWp.mix mixed [0,1,2,3,4,5,6,7,8,9] (.step 10 (.step 11 .done .done) .done) (by kernel_rfl) ?_;simp only[go_sem]
  refine Sd ?_
  refine GCall.use (.tup [aInts S,ai 0]) (fun _=>⟨At,(h2).val.use ⟨rfl,rfl⟩⟩) ?_;simp only[go_sem,n1,hg1]
  refine Sd ?_
  refine AWp.view [true,true] [(9,.rp 3 [aView ps (stC ps.length p k) (stV ps.length p S)] 0 0)] (LVw.refl _) (fun x hx => ?_) ?_
  ·simp only[List.mem_singleton] at hx
   subst hx
   simp only[go_sem,pickT]
   refine .rp rfl (Vws.cons (.mkAgg (Vws.cons (.refl _) (Vws.cons (Vw.ofLs (t:=3) (cap:=ps.length) (by simp [lk,n2]) (by rw[List.length_map,stC_len])) (Vws.cons ?_ .nil)))) .nil).2
   refine .ls (t:=43) (xs:=(List.replicate ps.length anil).set p (aInts S)) (cap:=ps.length) (by simp [lk,aInts]) (by simp) (by simp [stV]) fun i x y hx hy => ?_
   rw[List.drop_zero,List.take_of_length_le (by simp),List.getElem?_set] at hx
   unfold stV at hy
   rw[List.map_set,List.getElem?_set] at hy
   by_cases e:p=i
   ·subst e
    simp [hp] at hx hy
    subst hx;subst hy;exact .refl _
   ·rw[if_neg e,List.getElem?_replicate] at hx
    rw[if_neg e,List.getElem?_map,List.getElem?_replicate] at hy
    by_cases h5:i<ps.length
    ·rw[if_pos h5] at hx hy
     cases hx;cases hy
     exact .nil 1
    ·rw[if_neg h5] at hx;cases hx
  ·simp only[go_sem,pickF]
   refine Wk ?_
   refine Sd ?_
   refine(h1).val.use ?_;simp only[go_sem]
   refine Wk ?_
   refine ret_eq ?_;simp only[go_sem]
theorem truthsF_nat {ps:List Pr} {p:Nat} (hp:p<ps.length) (t:Pd):truthsF ps p t=(List.range (ps[p].evs.length+1)).map fun (k:Nat)=>lclT ps p t k:=by
 unfold truthsF;rw[evN_get hp,Int.toNat_natCast]
noncomputable def aTruths (ps:List Pr) (p:Int) (t:Pd):AV:=if lclF ps p 0 t=0 then .tup [.sl 1 ((truthsF ps p.toNat t).map ab),ai 0] else .tup [.sl 1 [],ai (lclF ps p 0 t)]
theorem evaluate_Truths (ps:List Pr) (hs:Sm ps) (p:Int) (t:Pd) (hz:szF t≤1000000):PC Proofs.Tryz.prog 10 [aTr ps,ai p,aPd t] (aTruths ps p t):=by
 have h1:=evaluate_check ps hs p 0 t hz
 have hl:=hs.procs
 unfold aTruths
 by_cases he:lclF ps p 0 t=0
 ·rw[if_pos he]
  rw[he] at h1
  have hp0:0≤p:=by
   unfold lclF at he
   split at he
   ·rename_i h;exact absurd he h
   ·split at he
    ·cases he
    ·rename_i h;omega
  obtain⟨i,rfl⟩:∃i:Nat,p=i:=⟨p.toNat,by omega⟩
  rw[Int.toNat_natCast]
  obtain⟨hc,hp,_,_,h9,hlc⟩:=lcl_ok he
  have hel:=hs.evs _ (List.getElem_mem hp)
  have hgp:=getD_map (f:=aPr) hp
  have hst:=fun (k:Nat) hk=>evaluate_inState ps hs i k hp hk t hz hc h9 hlc
  rw[truthsF_nat hp,List.map_map]
  have hy:∀k,((List.range k).map fun (k:Nat)=>ab (lclT ps i t k)).length=k:=fun k=>by simp
  have hys:∀k,((List.range (k+1)).map fun (k:Nat)=>ab (lclT ps i t k))=((List.range k).map fun (k:Nat)=>ab (lclT ps i t k)) ++ [ab (lclT ps i t k)]:=fun k=>by rw[List.range_succ,List.map_append];rfl
  have hfin:(List.range (ps[i].evs.length+1)).map (ab ∘ fun (k:Nat)=>lclT ps i t k)=(List.range (ps[i].evs.length+1)).map fun (k:Nat)=>ab (lclT ps i t k):=rfl
  rw[hfin]
  obtain⟨k0,n,pp,q,s,l⟩:=t
  simp only[aPd_mk] at *
  generalize hY:(fun k:Nat=>(List.range k).map fun (j:Nat)=>ab (lclT ps i (.mk k0 n pp q s l) j))=Y at *
  have hYk:∀k,((List.range k).map fun (j:Nat)=>ab (lclT ps i (.mk k0 n pp q s l) j))=Y k:=fun k=>by rw[← hY]
  simp only[hYk] at hy hys ⊢
  refine PC.enter 39 [.tmp 6,.tmp 7] [3,5,35] Proofs.Tryz.func10 rfl rfl rfl rfl rfl (by simp) (AWp.of ?_);simp only[go_sem]
  refine Wk ?_
  refine Sd ?_
  refine(h1).val.use ?_;simp only[go_sem]
  refine W1 hgp ?_
  refine AWp.range' (ps[i].evs.length+1) [9] [1,3,5,25] (fun k vs L=>∃v,vs=[v]∧AppSt 4 1 (Y k) v L) (by omega) rfl rfl rfl ⟨anil,rfl,by rw[← hY];exact .nil⟩ ?_ ?_
  ·rintro k vs L' hk - ⟨v,rfl,hA⟩
   have hyl:=hy k
   have hst:=hst k (by omega)
   rw[hys k]
   have hfo:=hA.fo
   generalize Y k=ys at *
   generalize lclT ps i (.mk k0 n pp q s l) k=b at *
   rcases hA.inv with ⟨e1,rfl,rfl⟩|⟨b',cap,rfl,rfl⟩
   ·simp only[go_sem]
    refine Wk ?_
    refine Sd ?_
    refine(hst).val.use ?_;simp only[go_sem]
    refine Sd ?_
    intro b' cap' _
    refine⟨_,List.Sublist.refl _,_,rfl,?_⟩
    rw[e1]
    exact .row _ _ _
   ·simp only[go_sem]
    refine Wk ?_
    refine Sd ?_
    refine(hst).val.use ?_;simp only[go_sem]
    refine Sd ?_
    intro b' cap' _
    refine⟨_,List.Sublist.refl _,_,rfl,?_⟩
    have:=AppSt.row (t:=4) (k:=1) b' (ys ++ [ab b]) cap'
    simpa using this
  ·rintro vs L' - ⟨v,rfl,hA⟩
   have hyl:=hy (ps[i].evs.length+1)
   generalize Y (ps[i].evs.length+1)=ys at *
   simp only[go_sem]
   rcases hA.inv with ⟨e1,rfl,rfl⟩|⟨b,cap,rfl,rfl⟩
   ·rw[e1] at hyl;simp at hyl
   ·refine Wk ?_
    refine ret_view [true] ?_;simp only[go_sem]
    exact .mkTup (Vws.cons (Vw.ofLs (if_pos rfl) rfl) (Vws.refl _))
 ·rw[if_neg he]
  generalize lclF ps p 0 t=e at *
  obtain⟨k0,n,pp,q,s,l⟩:=t
  simp only[aPd_mk] at *
  refine PC.enter 39 [.tmp 6,.tmp 7] [3,5,35] Proofs.Tryz.func10 rfl rfl rfl rfl rfl (by simp) (AWp.of ?_);simp only[go_sem]
  refine Wk ?_
  refine Sd ?_
  refine(h1).val.use ?_;simp only[go_sem]
  refine W1 he ?_
  refine ret_view [] ?_;simp only[go_sem]
  exact .mkTup (Vws.cons (.nil 1) (Vws.refl _))
noncomputable def elimOf (ps:List Pr) (ts:List Pd):Elim where
 n:=ps.length
 top:=nev ps
 ok:=fun p k=>match ts[p]? with|some t=>lclT ps p t k|none=>true
 need:=fun q k p=>cAt (closeF ps (stC ps.length q k)) p
def aStp (s:Stp):AV:=.agg [ai s.1,ai s.2.1,ai s.2.2]
end Go.AL
end
