/- Texts of this claim's proof: AlBr3, AlBr4, AlSrt, WLsf, WCx, AlCutf. No condition. -/
import Derived.Test.YtbegiibjiidkmaaGreatDoorM10
import Derived.Lib.LaidTab
import Derived.Shelf.SlSortCmp.Whole1
import Derived.Test.YtbegiibjiidkmaaGreatDoorProg
import Derived.Shelf.SlGeneric
import Derived.Test.YtbegiibjiidkmaaGreatDoorM7
import Derived.Test.YtbegiibjiidkmaaGreatDoorM4
section
namespace Go.AL
open Go Go.RowKit Go.ChangeShapes Go.WideShapes Go.ChangeAt Proofs.Tryz
def RdF {H:Type}(enc:TypeId × Value->H)(P:Program)(W:World)(N:Nat)(t:TypeId)(k:Nat){α:Type}(E:α->AV)(ok:α->Prop):Prop :=
 ∀fuel cs x,fuel<=N->DataW.trod enc P W 0 (fun _=>true) true fuel t cs=some x->∃y,ok y/\elOk k (E y)/\cs.length=k/\∀(i:Nat) c u,(E y).cells[i]?=some c->cs[i]?=some u->Rel W (fun b=>b<W.heap.size) c u
section
variable {H:Type} {enc:TypeId × Value->H} {P:Program} {W:World} {t:TypeId}
theorem Rd.bounded {α:Type}{k:Nat}{E:α->AV}{ok:α->Prop}(h:Rd enc P W t k E ok)(N:Nat):RdF enc P W N t k E ok:=fun fuel cs x _ hx=>h fuel cs x hx
theorem RdF.all {α:Type}{k:Nat}{E:α->AV}{ok:α->Prop}(h:∀N,RdF enc P W N t k E ok):Rd enc P W t k E ok:=fun fuel cs x hx=>h fuel fuel cs x (Nat.le_refl _) hx
theorem RdF.mono {α:Type}{k:Nat}{E:α->AV}{ok:α->Prop}{N M:Nat}(h:RdF enc P W N t k E ok)(hM:M<=N):RdF enc P W M t k E ok:=fun fuel cs x hf hx=>h fuel cs x (by omega) hx
theorem RdF.zero {α:Type}{k:Nat}{E:α->AV}{ok:α->Prop} : RdF enc P W 0 t k E ok:=fun fuel cs x hf hx=>by
 obtain rfl:fuel=0:=by omega
 simp [DataW.trod] at hx
theorem RdF.map {α β:Type}{k:Nat}{N:Nat}{E:α->AV}{E':β->AV}{ok:α->Prop}{ok':β->Prop}(f:α->β)(hE:∀y,E y=E' (f y))(hok:∀y,ok y->ok' (f y))(h:RdF enc P W N t k E ok):RdF enc P W N t k E' ok':=by
 intro fuel cs x hN hx
 obtain⟨y,k1,k2,k3,k4⟩:=h fuel cs x hN hx
 exact⟨f y,hok y k1,by rw[<- hE];exact k2,k3,by rw[<- hE];exact k4⟩
theorem RdF.slice {N:Nat}{α:Type}{E:α->AV}{ok:α->Prop}{e:TypeId}{k:Nat}(ht:P.underlying t=some (.slice e))(hk:P.cellsOf e=k)(h0:0<k)(he:RdF enc P W N e k E ok) :
  RdF enc P W (N+1) t 1 (fun l:List α=>.sl k (l.map E)) (fun l=>l.length<=maxLen/\∀y ∈ l,ok y):=by
 intro fuel cs x hN h
 rcases DataW.trod_slice ht h with ⟨rfl,_⟩|⟨a,len,cap,elems,rest,n,hfu,rfl,_,_,hl,hm,hlen,hel,_,_⟩
 ·refine⟨[],⟨by simp,by simp⟩,⟨rfl,rfl⟩,rfl,fun i c u h1 h2=>?_⟩
  cases i with
  | zero=>cases h1;cases h2;exact .sl0 k none 0 (by simp)
  | succ i=>cases h2
 ·rw[hk] at hel
  obtain⟨l,hll,hli⟩:=ofFin (len:=len) (Q:=fun i y=>∃cs:List Value,ok y/\elOk k (E y)/\cs.length=k/\(∀m,m<k->W.cell? ((a.add (i * k)).add m)=cs[m]?)/\∀(m:Nat) c u,(E y).cells[m]?=some c->cs[m]?=some u->Rel W (fun b=>b<W.heap.size) c u) fun i hi=>by
   have h1:=hel i hi
   rw[List.getElem?_eq_getElem (by omega),Option.bind_eq_some_iff] at h1
   obtain⟨cs,hc,ht⟩:=h1
   obtain⟨y,k1,k2,k3,k4⟩:=he _ _ _ (by omega) ht
   exact⟨y,cs,k1,k2,k3,(World.cells?_some hc).2.2,k4⟩
  refine⟨l,⟨by omega,fun y hy=>?_⟩,⟨rfl,rfl⟩,rfl,fun i c u h1 h2=>?_⟩
  ·obtain⟨i,hi,rfl⟩:=List.getElem_of_mem hy
   obtain⟨_,h,_⟩:=hli i (by omega);exact h
  ·cases i with
   | succ i=>cases h2
   | zero =>
    cases h1;cases h2
    by_cases hz:len=0
    ·subst hz
     rw[List.length_eq_zero_iff.1 hll]
     exact .sl0 k _ cap hm
    ·obtain⟨b,off,spot⟩:=a
     obtain⟨cs0,_,_,c3,c4,_⟩:=hli 0 (by omega)
     have hs:spot=none:=by
      have:=c4 0 h0
      have e0:∀a:Addr,a.add 0=a:=fun _=>rfl
      rw[Nat.zero_mul,e0,e0,List.getElem?_eq_getElem (by omega)] at this
      cases spot with
      | none=>rfl
      | some s =>
       exfalso
       unfold World.cell? at this
       split at this
       ·rw[if_pos (show (some s).isSome=true from rfl)] at this;cases this
       ·cases this
     subst hs
     have cell:∀(i:Nat) (hi:i<len) (m:Nat),m<k->∃u,W.cell? ⟨b,off+(i * k+m),none⟩=some u/\∀c,(E (l[i]'(by omega))).cells[m]?=some c->Rel W (fun b=>b<W.heap.size) c u:=fun i hi m hm=>by
      obtain⟨cs,_,_,c3,c4,c5⟩:=hli i (by omega)
      have:=c4 m hm
      rw[add_none,add_none,Nat.add_assoc,List.getElem?_eq_getElem (by omega)] at this
      exact⟨_,this,fun c hc=>c5 m c _ hc (List.getElem?_eq_getElem (by omega))⟩
     have hA:b<W.heap.size:=by
      obtain⟨u,hu,_⟩:=cell 0 (by omega) 0 h0
      unfold World.cell? at hu
      cases hb:W.heap[b]? with
      | none=>simp [hb] at hu
      | some o=>exact(Array.getElem?_eq_some_iff.1 hb).1
     have:=Rel.sl (w:=W) (A:=fun b=>b<W.heap.size) k (l.map E) b off cap (fun j=>(W.cell? ⟨b,off+j,none⟩).getD undef) hA (by rw[List.length_map];omega) hm
      (fun x hx=>by
       obtain⟨y,hy,rfl⟩:=List.mem_map.1 hx
       obtain⟨i,hi,rfl⟩:=List.getElem_of_mem hy
       obtain⟨cs,_,c2,_⟩:=hli i (by omega)
       exact c2)
      (fun j hj=>by
       rw[List.length_map,hll] at hj
       have h1:j / k<len:=(Nat.div_lt_iff_lt_mul h0).2 hj
       obtain⟨u,hu,_⟩:=cell (j / k) h1 (j % k) (Nat.mod_lt _ h0)
       have e:j / k * k+j % k=j:=Nat.div_add_mod' j k
       rw[e] at hu
       rw[hu];rfl)
      (fun i x j y hx hy=>by
       rw[List.getElem?_map,Option.map_eq_some_iff] at hx
       obtain⟨z,hz,rfl⟩:=hx
       obtain⟨hi,rfl⟩:=List.getElem?_eq_some_iff.1 hz
       obtain⟨cs,_,c2,_⟩:=hli i (by omega)
       have hj:j<k:=by have:=(List.getElem?_eq_some_iff.1 hy).1;have:=c2.1;omega
       obtain⟨u,hu,hr⟩:=cell i (by omega) j hj
       rw[hu]
       exact hr _ hy)
     rw[List.length_map,hll] at this
     exact this
def RdFL (enc:TypeId × Value->H)(P:Program)(W:World)(N:Nat)(ts:List TypeId){α:Type}(E:α->List AV)(ok:α->Prop):Prop :=
 ∀(n:Nat) (cs:List Value) (xs:List (DataW H × List MemPlace)),n<=N->xs.length=ts.length->cs.length=ts.length ->
  (∀(i:Nat) t,ts[i]?=some t->DataW.trod enc P W 0 (fun _=>true) true n t ((cs.drop i).take 1)=xs[i]?) ->
  ∃y,ok y/\(E y).length=ts.length/\(E y).all one=true/\∀(i:Nat) c u,(E y)[i]?=some c->cs[i]?=some u->Rel W (fun b=>b<W.heap.size) c u
theorem RdFL.nil {N:Nat} : RdFL enc P W N [] (fun _:Unit=>[]) (fun _=>True):=by
 intro n cs xs _ _ _ _
 exact⟨(),trivial,rfl,rfl,fun i c u h=>by simp at h⟩
theorem RdFL.cons {N:Nat}{α β:Type}{E:α->AV}{ok:α->Prop}{ts:List TypeId}{F:β->List AV}{ok':β->Prop}(h:RdF enc P W N t 1 E ok)(h1:∀y,one (E y)=true/\(E y).cells=[E y])(hs:RdFL enc P W N ts F ok') :
  RdFL enc P W N (t :: ts) (fun y:α × β=>E y.1 :: F y.2) (fun y=>ok y.1/\ok' y.2):=by
 intro n cs xs hN hx hc hi
 match xs,cs,hx,hc with
 | x :: xs,u :: cs,hx,hc =>
  have h0:=hi 0 t rfl
  simp only[List.drop_zero,List.take_succ_cons,List.take_zero,List.getElem?_cons_zero] at h0
  obtain⟨y,k1,_,_,k4⟩:=h _ _ _ hN h0
  obtain⟨z,g1,g2,g3,g4⟩:=hs n cs xs hN (by simpa using hx) (by simpa using hc) fun i t' ht=>by
   have:=hi (i+1) t' (by simpa using ht)
   simpa using this
  refine⟨(y,z),⟨k1,g1⟩,by simp [g2],by simp [g3,(h1 y).1],fun i c u' hcc hu=>?_⟩
  cases i with
  | zero=>cases hcc;cases hu;exact k4 0 _ _ (by rw[(h1 y).2];rfl) rfl
  | succ i=>exact g4 i c u' (by simpa using hcc) (by simpa using hu)
theorem RdF.struct {N:Nat}{fs:Array Field}{α:Type}{ts:List TypeId}{F:α->List AV}{ok:α->Prop}(ht:P.underlying t=some (.struct fs))(hts:fs.toList.map (·.type)=ts)(hof:fs.toList.map (·.offset)=List.range ts.length)(hk:P.cellsOf t=ts.length)
  (hc:(ts.all fun t=>P.cellsOf t == 1)=true) (h:RdFL enc P W N ts F ok):RdF enc P W (N+1) t ts.length (fun y=>.agg (F y)) ok:=by
 intro fuel cs x hN hx
 obtain⟨xs,n,hfu,_,hl,hlen,hf⟩:=DataW.trod_struct ht hx
 have hfl:fs.size=ts.length:=by rw[<- hts];simp
 obtain⟨y,k1,k2,k3,k4⟩:=h n cs xs (by omega) (by omega) (by omega) fun i t' ht'=>by
  have hi:i<ts.length:=(List.getElem?_eq_some_iff.1 ht').1
  have hg:fs[i]?=some fs[i]:=Array.getElem?_eq_getElem (by omega)
  have e1:(fs[i]).type=t':=by
   rw[<- hts,List.getElem?_map,Array.getElem?_toList,hg] at ht'
   exact Option.some.inj ht'
  have e2:(fs[i]).offset=i:=by
   have:(fs.toList.map (·.offset))[i]?=some i:=by rw[hof,List.getElem?_range hi]
   rw[List.getElem?_map,Array.getElem?_toList,hg] at this
   exact Option.some.inj this
  have:=hf i _ hg
  have hct:P.cellsOf t'=1:=by
   have:=List.all_eq_true.1 hc _ (List.mem_of_getElem? ht')
   simpa using this
  rw[e1,e2,hct] at this
  exact this
 exact⟨y,k1,⟨k2,k3⟩,by omega,k4⟩
end
end Go.AL
end
section
namespace Go.AL
open Go Go.RowKit Proofs.Tryz
theorem Rel.tabK {P:Program}{W:World}{name:String}{k:IntKind}{zs:List Int}{g:Nat}(h:Lib.TabIs P W name k zs)(hg:P.globalNamed name=some g)(hz:0<zs.length) :
  Rel W (fun b=>b<W.heap.size) (.rp 1 (zs.map fun z=>.v (.int k z)) 0 0) (.pointer (some ⟨g,0,none⟩)):=by
 have hA:g<W.heap.size:=by
  have hu:=h.cell hg 0 hz
  unfold World.cell? at hu
  cases hb:W.heap[g]? with
  | none=>simp [hb] at hu
  | some o=>exact(Array.getElem?_eq_some_iff.1 hb).1
 have:=Rel.rp (w:=W) (A:=fun b=>b<W.heap.size) 1 (zs.map fun z=>.v (.int k z)) 0 0 g 0 (fun i=>.int k (zs.getD i 0)) hA
  (fun x hx=>by obtain⟨z,_,rfl⟩:=List.mem_map.1 hx;exact⟨rfl,rfl⟩)
  (fun i hi=>by
   rw[List.length_map] at hi
   have:=h.cell hg i (by omega)
   simpa using this)
  (fun i x j y hx hy=>by
   rw[List.getElem?_map,Option.map_eq_some_iff] at hx
   obtain⟨z,hz,rfl⟩:=hx
   cases j with
   | succ j=>cases hy
   | zero =>
    cases hy
    have e:zs.getD i 0=z:=by rw[List.getD_eq_getElem?_getD,hz];rfl
    simp only[Nat.mul_one,Nat.add_zero,e]
    exact .v _)
 exact this
end Go.AL
end
section
namespace Go.AL
open Go Go.RowKit Go.Lib Go.Sort Go.Proofs Go.Shelf Proofs.Tryz
structure Item (w:World)(A:Foot){β:Type}(av:β->AV)(Q:β->Prop) where
 u:Value
 x:β
 rel:Rel w A (av x) u
 ok:Q x
theorem items {w:World}{A:Foot}{β:Type}{av:β->AV}{Q:β->Prop} : ∀(xs:List β) (us:List Value),us.length=xs.length ->
  (∀(i:Nat) x u,xs[i]?=some x->us[i]?=some u->Rel w A (av x) u/\Q x)->∃d:List (Item w A av Q),d.map (·.x)=xs/\d.map (·.u)=us
 | [],us,hl,_=>⟨[],rfl,(List.eq_nil_of_length_eq_zero hl).symm⟩
 | x :: xs,[],hl,_=>by simp at hl
 | x :: xs,u :: us,hl,h=>by
  obtain⟨d,h1,h2⟩:=items xs us (by simpa using hl) fun i y v hy hv=>h (i+1) y v (by simpa using hy) (by simpa using hv)
  have h0:=h 0 x u rfl rfl
  exact⟨⟨u,x,h0.1,h0.2⟩ :: d,by simp [h1],by simp [h2]⟩
theorem grow_of_Fr {w w':World}{M:Foot}(h:Fr w M w')(hM:∀b,¬M b):∃q os,w'=grow (w.drewN q) os:=by
 refine⟨w'.drawn - w.drawn,w'.heap.extract w.heap.size w'.heap.size,?_⟩
 have hh:w'.heap=w.heap ++ w'.heap.extract w.heap.size w'.heap.size:=by
  apply Array.ext_getElem?
  intro k
  by_cases hk:k<w.heap.size
  ·rw[Array.getElem?_append_left hk];exact h.block k hk (hM k)
  ·rw[Array.getElem?_append_right (by omega),Array.getElem?_extract]
   have:=h.size
   by_cases hk2:k<w'.heap.size
   ·rw[if_pos (by omega)];congr 1;omega
   ·rw[if_neg (by omega)];exact Array.getElem?_eq_none (by omega)
 have hd:=h.drawn
 obtain⟨heap,tape,drawn,os,out⟩:=w'
 simp only[grow,World.drewN,World.mk.injEq]
 exact⟨hh,h.tape,by simp only at hd ⊢;omega,h.os,h.output⟩
theorem sortWorld_heap_ne {α:Type} [Inhabited α] (enc:α->Value) (w:World) (b o m:Nat) (d:Array α) (os:Array Obj) {k:Nat} (hk:k<w.heap.size) (hb:k ≠ b) :
  (sortWorld enc w b o m d os).heap[k]?=w.heap[k]?:=by
 simp only[sortWorld,grow,putRow,mapBlock,Sort.ahead]
 rw[Array.getElem?_append_left (by simpa using hk),Array.getElem?_modify,if_neg (fun e=>hb e.symm)]
theorem sortWorld_heap_eq {α:Type} [Inhabited α] (enc:α->Value) (w:World) (b o m:Nat) (d:Array α) (os:Array Obj) {c:Array Value} {t:TypeId} {fr:Nat × Nat} (h:w.heap[b]?=some (.cells c t fr)) :
  (sortWorld enc w b o m d os).heap[b]?=some (.cells (putCells enc o d c) t fr):=by
 have hk:b<w.heap.size:=(Array.getElem?_eq_some_iff.1 h).1
 simp only[sortWorld,grow,putRow,mapBlock,Sort.ahead]
 rw[Array.getElem?_append_left (by simpa using hk),Array.getElem?_modify,if_pos rfl,h]
 rfl
theorem sortWorld_size {α:Type} [Inhabited α] (enc:α->Value) (w:World) (b o m:Nat) (d:Array α) (os:Array Obj):w.heap.size<=(sortWorld enc w b o m d os).heap.size:=by
 simp only[sortWorld,grow,putRow,mapBlock,Sort.ahead,Array.size_append,Array.size_modify];omega
theorem sort_calls {P:Program}{ρ:Ren}(S:SlLaysF.n6 P ρ){g:Nat}{t:TypeId}{β:Type}(av:β->AV)(Q:β->Prop)(dflt:β)(hQ:Q dflt)(hd:∀w A,∃u,Rel w A (av dflt) u)
  (ho:∀x,Q x->one (av x)=true) (cf:β->β->Int) (hS:SWO (ltOf cf)) (hc:∀x y,Q x->Q y->PC P g [av x,av y] (.v (.int .i64 (cf x y)))) (b cap:Nat) (xs:List β) (hx:∀x ∈ xs,Q x)
  (hlen:xs.length<4611686018427387904) :
  MCalls P (ρ.f 6) [.ls b 1 0 xs.length cap,.v (.func (.func g) #[] #[])] [(b,.row t 1 (xs.map av) cap)]
   fun r L'=>r = .tup []/\∃ys:List β,ys.Perm xs/\ys.Pairwise (fun x y=>¬cf y x<0)/\L'=[(b,.row t 1 (ys.map av) cap)]:=by
 refine⟨S.f6.enters rfl,fun n w A vs hL hv=>callsIn_wide.2 ?_⟩
 obtain⟨u1,vs1,rfl,r1,hv⟩:=hv.inv_cons
 obtain⟨u2,vs2,rfl,r2,hv⟩:=hv.inv_cons
 obtain rfl:=hv.inv_nil
 cases r2
 cases r1 with
 | ls _ _ _ _ _ o hl hcm hoo =>
 have hb:=hL.blk (b,.row t 1 (xs.map av) cap) List.mem_cons_self
 have hblk:=hb.lt
 have hnA:=hL.disj (b,.row t 1 (xs.map av) cap) List.mem_cons_self
 obtain⟨c,b1,b2,b3,b4,b5,b6⟩:=hb
 simp only[Nat.mul_one,List.length_map] at b2 b3 hblk hnA
 have o0:xs.length=0\/o=0:=by rcases hoo with h|h <;> omega
 obtain⟨d,d1,d2⟩:=items (w:=w) (A:=A) (av:=av) (Q:=Q) xs (c.toList.take xs.length) (by simp;omega) fun i x u hi hu=>by
  have hlt:i<xs.length:=(List.getElem?_eq_some_iff.1 hi).1
  have hq:Q x:=hx x (List.mem_of_getElem? hi)
  rw[List.getElem?_take_of_lt hlt,Array.getElem?_toList] at hu
  exact⟨b6 i (av x) 0 (av x) u (by simp [hi]) (by rw[one_cells (ho x hq)];rfl) (by simpa using hu),hq⟩
 have dl:d.length=xs.length:=by have:=congrArg List.length d1;simpa using this
 obtain⟨ud,hud⟩:=hd w A
 haveI:Inhabited (Item w A av Q):=⟨⟨ud,dflt,hud,hQ⟩⟩
 let enc:Item w A av Q->Value:=fun i=>i.u
 let cf':Item w A av Q->Item w A av Q->Int:=fun i j=>cf i.x j.x
 have hS':SWO (ltOf cf'):=⟨fun x=>hS.irrefl x.x,fun x y z=>hS.trans x.x y.x z.x,fun x y z=>hS.ntrans x.x y.x z.x⟩
 have hH:Holds enc w b o d.toArray:=fun j hj=>by
  have hj':j<xs.length:=by simpa [dl] using hj
  have ho0:o=0:=by omega
  subst ho0
  have e1:(c.toList.take xs.length)[j]?=some (enc d[j]!):=by
   rw[<- d2,List.getElem?_map,getElem!_pos d j (by omega),List.getElem?_eq_getElem (by omega)];rfl
  rw[List.getElem?_take_of_lt hj',Array.getElem?_toList] at e1
  refine⟨?_,?_⟩
  ·simp only[World.cell?,b1,Nat.zero_add,Option.isSome_none,Bool.false_eq_true,if_false]
   simpa using e1
  ·simp [World.frozen?,b1]
 have eg:∀args w,(callFunc g args).run P w = .ok (.enter g args) w:=(hc dflt dflt hQ hQ).1
 have hcmp:CmpLays1 P g #[] enc cf' b o d.toArray.size w:=fun m os dk hdk x y=>by
  have keep:∀k,A k->(sortWorld enc w b o m dk os).heap[k]?=w.heap[k]?:=fun k hk=>sortWorld_heap_ne enc w b o m dk os (hL.abnd k hk) (fun e=>hnA (e ▸ hk))
  have hL':LRel (sortWorld enc w b o m dk os) A []:=⟨fun k hk=>Nat.lt_of_lt_of_le (hL.abnd k hk) (sortWorld_size ..),(fun _ h=>nomatch h),by simp,(fun _ h=>nomatch h),hL.globL keep fun _ h=>h⟩
  have hr:Rels (sortWorld enc w b o m dk os) A [av x.x,av y.x] [x.u,y.u]:=.cons (x.rel.later keep fun _ h=>h) (.cons (y.rel.later keep fun _ h=>h) .nil)
  have h:=callsIn_wide.1 ((hc x.x y.x x.ok y.ok).2 0 _ A _ hL' hr)
  refine Calls.mono h ?_
  rintro e w' ⟨v,r,L',A',rfl,⟨rfl,rfl⟩,hf,_,_,_,hrv⟩
  cases hrv
  exact⟨rfl,grow_of_Fr hf fun k ⟨_,hk,_⟩=>by cases hk⟩
 have h1:OneCell enc:=fun i=>one_ok i.rel (ho i.x i.ok)
 have main:=Any.slices_SortFunc S enc h1 cf' hS' g #[] b o cap d.toArray w eg hcmp hH hblk (by simpa [dl] using hlen)
 rw[show d.toArray.size=xs.length by simp [dl]] at main
 refine Calls.mono main ?_
 rintro e w' ⟨rfl,d',n',os,hp,hs,rfl⟩
 have sz:d'.size=xs.length:=by rw[hp.1];simp [dl]
 have keep:∀k,A k->(sortWorld enc w b o n' d' os).heap[k]?=w.heap[k]?:=fun k hk=>sortWorld_heap_ne enc w b o n' d' os (hL.abnd k hk) (fun e=>hnA (e ▸ hk))
 refine⟨_,.tup [],[(b,.row t 1 ((d'.toList.map (·.x)).map av) cap)],A,rfl,⟨rfl,d'.toList.map (·.x),?_,?_,rfl⟩,⟨rfl,rfl,rfl,sortWorld_size ..,fun k hk hn=>?_,by simp [sortWorld,grow,putRow,mapBlock,Sort.ahead]⟩,fun _ h=>.inl h,?_,fun x hx=>.inl ?_,.tup [] #[] rfl (by simp)⟩
 ·have:=hp.2.2
  rw[show d'.extract 0 xs.length=d' by rw[<- sz];exact Array.extract_size ..,show d.toArray.extract 0 xs.length=d.toArray by rw[<- dl];simp] at this
  have:=this.map (fun i:Item w A av Q=>i.x)
  simpa [d1] using this
 ·rw[List.pairwise_map,List.pairwise_iff_getElem]
  intro i j hi hj hij
  have hi':i<d'.size:=by simpa using hi
  have hj':j<d'.size:=by simpa using hj
  have:=hs i j (Nat.zero_le _) hij (by omega)
  rw[getElem!_pos d' i hi',getElem!_pos d' j hj'] at this
  simpa [ltOf,cf'] using this
 ·exact sortWorld_heap_ne _ _ _ _ _ _ _ hk fun e=>hn ⟨_,List.mem_cons_self,e.symm⟩
 ·have hb':=sortWorld_heap_eq enc w b o n' d' os b1
  refine⟨fun k hk=>Nat.lt_of_lt_of_le (hL.abnd k hk) (sortWorld_size ..),fun x hx=>?_,by simp,fun x hx=>?_,hL.globL keep fun _ h=>h⟩
  ·obtain rfl:=List.mem_singleton.1 hx;exact hnA
  ·obtain rfl:=List.mem_singleton.1 hx
   refine⟨_,hb',by simp [putCells,b2],by simp [sz];omega,b4,fun y hy=>?_,fun i x j y u hi hj hu=>?_⟩
   ·simp only[List.map_map,List.mem_map] at hy
    obtain⟨it,_,rfl⟩:=hy
    have h1:=ho it.x it.ok
    exact⟨by simp [one_cells h1],by revert h1;simp only[Function.comp];cases av it.x <;> simp [one,okv]⟩
   ·simp only[List.map_map,List.getElem?_map,Option.map_eq_some_iff] at hi
    obtain⟨it,hit,rfl⟩:=hi
    have h1:=ho it.x it.ok
    simp only[Function.comp,one_cells h1] at hj
    have hj0:j=0:=by have:=(List.getElem?_eq_some_iff.1 hj).1;simpa using this
    subst hj0
    simp only[List.getElem?_cons_zero,Option.some.injEq] at hj
    subst hj
    have hi2:i<d'.size:=by have:=(List.getElem?_eq_some_iff.1 hit).1;simpa using this
    have o0':o=0:=by omega
    subst o0'
    simp only[Nat.mul_one,Nat.add_zero,putCells,Array.getElem?_mapIdx,Option.map_eq_some_iff] at hu
    obtain⟨v0,_,hu⟩:=hu
    rw[if_pos (by omega)] at hu
    have e2:d'[i - 0]! = it:=by
     rw[Nat.sub_zero,getElem!_pos d' i hi2]
     have:=(List.getElem?_eq_some_iff.1 hit).2
     simpa using this
    rw[e2] at hu
    subst hu
    exact it.rel.later keep fun _ h=>h
 ·obtain rfl:=List.mem_singleton.1 hx;exact⟨_,List.mem_cons_self,rfl⟩
def sortBy {β:Type}(cf:β->β->Int)(xs:List β):List β:=xs.mergeSort fun x y=>decide (¬cf y x<0)
theorem sortBy_perm {β:Type}(cf:β->β->Int)(xs:List β):(sortBy cf xs).Perm xs:=List.mergeSort_perm _ _
theorem sortBy_pair {β:Type}{cf:β->β->Int}(hS:SWO (ltOf cf))(xs:List β):(sortBy cf xs).Pairwise fun x y=>¬cf y x<0:=by
 have h:=List.pairwise_mergeSort (le:=fun x y:β=>decide (¬cf y x<0)) (fun a b c h1 h2=>?_) (fun a b=>?_) xs
 ·exact h.imp fun h=>of_decide_eq_true h
 ·have:=hS.ntrans c b a (by simpa [ltOf] using h2) (by simpa [ltOf] using h1)
  simpa [ltOf] using this
 ·by_cases h1:cf b a<0
  ·by_cases h2:cf a b<0
   ·have:=hS.trans a b a (by simpa [ltOf] using h2) (by simpa [ltOf] using h1)
    rw[hS.irrefl] at this;cases this
   ·simp [h2]
  ·simp [h1]
theorem sortBy_eq {β:Type}{cf:β->β->Int}(hS:SWO (ltOf cf))(ha:∀x y,¬cf x y<0->¬cf y x<0->x=y){xs ys:List β}(hp:ys.Perm xs)(hq:ys.Pairwise fun x y=>¬cf y x<0):ys=sortBy cf xs :=
 List.Perm.eq_of_pairwise (le:=fun x y=>¬cf y x<0) (fun a b _ _ h1 h2=>ha a b h2 h1) hq (sortBy_pair hS xs) (hp.trans (sortBy_perm cf xs).symm)
theorem sort_calls' {P:Program}{ρ:Ren}(S:SlLaysF.n6 P ρ){g:Nat}{t:TypeId}{β:Type}(av:β->AV)(Q:β->Prop)(dflt:β)(hQ:Q dflt)(hd:∀w A,∃u,Rel w A (av dflt) u)
  (ho:∀x,Q x->one (av x)=true) (cf:β->β->Int) (hS:SWO (ltOf cf)) (ha:∀x y,¬cf x y<0->¬cf y x<0->x=y) (hc:∀x y,Q x->Q y->PC P g [av x,av y] (.v (.int .i64 (cf x y)))) (b cap:Nat) (xs:List β)
  (hx:∀x ∈ xs,Q x) (hlen:xs.length<4611686018427387904) :
  MCalls P (ρ.f 6) [.ls b 1 0 xs.length cap,.v (.func (.func g) #[] #[])] [(b,.row t 1 (xs.map av) cap)] fun r L'=>r = .tup []/\L'=[(b,.row t 1 ((sortBy cf xs).map av) cap)] :=
 (sort_calls S av Q dflt hQ hd ho cf hS hc b cap xs hx hlen).mono fun r L' ⟨h1,ys,hp,hq,h2⟩=>⟨h1,by rw[h2,sortBy_eq hS ha hp hq]⟩
theorem PC.same {P:Program}{f:FuncId}{args:List AV}{vs:List Value}{v:Value}(he:Enters P f)(hv:∀w A us,Rels w A args us->us=vs)(h:∀w,Calls P f vs.toArray w fun e w'=>e = .returned v/\w'=w):PC P f args (.v v) :=
 ⟨he,fun n w A us hL hr=>callsIn_wide.2 (by
  rw[hv w A us hr]
  refine Calls.mono (h w) ?_
  rintro e w' ⟨rfl,rfl⟩
  exact⟨v,.v v,[],A,rfl,⟨rfl,rfl⟩,.refl _ _,fun _ h=>.inl h,hL,(fun x hx=>nomatch hx),.v v⟩)⟩
end Go.AL
end
section
namespace Go.AL
open Go Go.RowKit Go.Lib Go.Sort Go.Proofs Go.Shelf Proofs.Tryz
def sortRows_ren:Go.Shelf.Ren:=⟨fun|6=>211|15=>243|14=>242|28=>265|29=>266|20=>257|21=>258|22=>259|23=>260|24=>261|25=>262|26=>263|27=>264|46=>271|47=>272|48=>273|49=>274|50=>275|57=>277|n=>n,fun|22=>33|24=>95|25=>263|3=>3|39=>203|0=>0|53=>296|55=>120|4=>4|46=>289|45=>288|50=>293|5=>5|9=>9|66=>299|70=>82|76=>305|77=>171|n=>n,fun|n=>n⟩
theorem sortRows:Go.Proofs.SlLaysF.n6 prog sortRows_ren where
 mixed:=by kernel_rfl
 f6:=⟨"slices.SortFunc[[][]int,[]int]",by decide,func211.trans (congrArg some (by kernel_rfl))⟩
 f14:=⟨"slices.pdqsortCmpFunc[[]int]",by decide,func242.trans (congrArg some (by kernel_rfl))⟩
 f15:=func243.trans (congrArg some (by kernel_rfl))
 f20:=⟨"slices.insertionSortCmpFunc[[]int]",by decide,func257.trans (congrArg some (by kernel_rfl))⟩
 f21:=⟨"slices.heapSortCmpFunc[[]int]",by decide,func258.trans (congrArg some (by kernel_rfl))⟩
 f22:=⟨"slices.breakPatternsCmpFunc[[]int]",by decide,func259.trans (congrArg some (by kernel_rfl))⟩
 f23:=⟨"slices.choosePivotCmpFunc[[]int]",by decide,func260.trans (congrArg some (by kernel_rfl))⟩
 f24:=⟨"slices.reverseRangeCmpFunc[[]int]",by decide,func261.trans (congrArg some (by kernel_rfl))⟩
 f25:=⟨"slices.partialInsertionSortCmpFunc[[]int]",by decide,func262.trans (congrArg some (by kernel_rfl))⟩
 f26:=⟨"slices.partitionEqualCmpFunc[[]int]",by decide,func263.trans (congrArg some (by kernel_rfl))⟩
 f27:=⟨"slices.partitionCmpFunc[[]int]",by decide,func264.trans (congrArg some (by kernel_rfl))⟩
 f28:=func265.trans (congrArg some (by kernel_rfl))
 f29:=func266.trans (congrArg some (by kernel_rfl))
 f46:=⟨"slices.siftDownCmpFunc[[]int]",by decide,func271.trans (congrArg some (by kernel_rfl))⟩
 f47:=func272.trans (congrArg some (by kernel_rfl))
 f48:=func273.trans (congrArg some (by kernel_rfl))
 f49:=⟨"slices.medianAdjacentCmpFunc[[]int]",by decide,func274.trans (congrArg some (by kernel_rfl))⟩
 f50:=⟨"slices.medianCmpFunc[[]int]",by decide,func275.trans (congrArg some (by kernel_rfl))⟩
 f57:=⟨"slices.order2CmpFunc[[]int]",by decide,func277.trans (congrArg some (by kernel_rfl))⟩
 t0:=underlying0
 a0:=isAgg0
 z0:=sizeOf0
 v0:=zeroValue0
 t3:=underlying3
 a3:=isAgg3
 z3:=sizeOf3
 v3:=zeroValue3
 t4:=underlying4
 a4:=isAgg4
 z4:=sizeOf4
 v4:=zeroValue4
 t5:=underlying5
 a5:=isAgg5
 z5:=sizeOf5
 v5:=zeroValue5
 t9:=underlying9
 a9:=isAgg9
 z9:=sizeOf9
 v9:=zeroValue9
 t22:=underlying33
 a22:=isAgg33
 z22:=sizeOf33
 v22:=zeroValue33
 a24:=isAgg95
 z24:=sizeOf95
 t25:=underlying263
 a25:=isAgg263
 z25:=sizeOf263
 v25:=zeroValue263
 t39:=underlying203
 a39:=isAgg203
 z39:=sizeOf203
 v39:=zeroValue203
 t45:=underlying288
 a45:=isAgg288
 z45:=sizeOf288
 v45:=zeroValue288
 t46:=underlying289
 a46:=isAgg289
 z46:=sizeOf289
 v46:=zeroValue289
 t50:=underlying293
 a50:=isAgg293
 z50:=sizeOf293
 v50:=zeroValue293
 t53:=underlying296
 a53:=isAgg296
 z53:=sizeOf296
 v53:=zeroValue296
 t55:=underlying120
 a55:=isAgg120
 z55:=sizeOf120
 v55:=zeroValue120
 t66:=underlying299
 a66:=isAgg299
 z66:=sizeOf299
 v66:=zeroValue299
 t70:=underlying82
 a70:=isAgg82
 z70:=sizeOf82
 v70:=zeroValue82
 t76:=underlying305
 a76:=isAgg305
 z76:=sizeOf305
 v76:=zeroValue305
 t77:=underlying171
 a77:=isAgg171
 z77:=sizeOf171
 v77:=zeroValue171
end Go.AL
end
section
namespace Go.AL
open Go Go.RowKit Go.Sort Go.Proofs Proofs.Tryz
set_option maxRecDepth 4000
def cmpL:List Int->List Int->Int
 | [],[]=>0
 | [],_ :: _=>-1
 | _ :: _,[]=>1
 | x :: xs,y :: ys=>if x<y then -1 else if y<x then 1 else cmpL xs ys
theorem cmpL_cons (x y:Int)(xs ys:List Int):cmpL (x :: xs) (y :: ys)=if x<y then -1 else if y<x then 1 else cmpL xs ys:=by rw[cmpL]
theorem cmpL_irr:∀a,cmpL a a=0
 | []=>rfl
 | x :: xs=>by unfold cmpL;rw[if_neg (by omega),if_neg (by omega)];exact cmpL_irr xs
theorem cmpL_anti:∀a b,¬cmpL a b<0->¬cmpL b a<0->a=b
 | [],[],_,_=>rfl
 | [],_ :: _,h,_=>absurd (show cmpL [] _<0 from (by unfold cmpL;omega)) h
 | _ :: _,[],_,h=>absurd (show cmpL [] _<0 from (by unfold cmpL;omega)) h
 | x :: xs,y :: ys,h1,h2=>by
  unfold cmpL at h1 h2
  by_cases c1:x<y
  ·rw[if_pos c1] at h1;omega
  ·by_cases c2:y<x
   ·rw[if_pos c2] at h2;omega
   ·rw[if_neg c1,if_neg c2] at h1;rw[if_neg c2,if_neg c1] at h2
    rw[cmpL_anti xs ys h1 h2,show x=y by omega]
theorem cmpL_trans:∀a b c,cmpL a b<0->cmpL b c<0->cmpL a c<0
 | [],_,[],h1,h2=>by
  cases ‹List Int› with
  | nil=>unfold cmpL at h1;omega
  | cons=>unfold cmpL at h2;omega
 | [],_,_ :: _,_,_=>by unfold cmpL;omega
 | _ :: _,[],_,h,_=>by unfold cmpL at h;omega
 | _ :: _,_ :: _,[],_,h=>by unfold cmpL at h;omega
 | x :: xs,y :: ys,z :: zs,h1,h2=>by
  unfold cmpL at h1 h2 ⊢
  by_cases c1:x<y
  ·by_cases c2:y<z
   ·rw[if_pos (by omega)];omega
   ·rw[if_neg c2] at h2
    by_cases c3:z<y
    ·rw[if_pos c3] at h2;omega
    ·rw[if_pos (by omega)];omega
  ·rw[if_neg c1] at h1
   by_cases c4:y<x
   ·rw[if_pos c4] at h1;omega
   ·rw[if_neg c4] at h1
    by_cases c2:y<z
    ·rw[if_pos (by omega)];omega
    ·rw[if_neg c2] at h2
     by_cases c3:z<y
     ·rw[if_pos c3] at h2;omega
     ·rw[if_neg c3] at h2
      rw[if_neg (by omega),if_neg (by omega)]
      exact cmpL_trans xs ys zs h1 h2
theorem cmpL_ntrans (a b c:List Int)(h1:¬cmpL a b<0)(h2:¬cmpL b c<0):¬cmpL a c<0:=fun h=>by
 by_cases e:cmpL b a<0
 ·exact h2 (cmpL_trans b a c e h)
 ·rw[cmpL_anti a b h1 e] at h;exact h2 h
theorem swoL:SWO (ltOf cmpL) where
 irrefl x:=by simp [ltOf,cmpL_irr]
 trans x y z h1 h2:=by simp only[ltOf,decide_eq_true_eq] at *;exact cmpL_trans x y z h1 h2
 ntrans x y z h1 h2:=by simp only[ltOf,decide_eq_false_iff_not] at *;exact cmpL_ntrans x y z h1 h2
theorem cmpL_drop:∀(k:Nat) (a b:List Int),k<=a.length->k<=b.length->(∀(i:Nat) (h:i<a.length) (h':i<b.length),i<k->a[i]=b[i])->cmpL a b=cmpL (a.drop k) (b.drop k)
 | 0,_,_,_,_,_=>rfl
 | k+1,[],_,h,_,_=>by simp at h
 | k+1,_ :: _,[],_,h,_=>by simp at h
 | k+1,x :: a,y :: b,h1,h2,h3=>by
  have e:x=y:=h3 0 (by simp) (by simp) (by omega)
  subst e
  rw[List.drop_succ_cons,List.drop_succ_cons,<- cmpL_drop k a b (by simpa using h1) (by simpa using h2) fun i h h' hi=>h3 (i+1) (by simpa using h) (by simpa using h') (by omega)]
  conv=>lhs;unfold cmpL
  rw[if_neg (by omega),if_neg (by omega)]
theorem nan_int (x:Int):PC prog 267 [ai x] (ab false):=by
 refine PE 6 [.tmp 2] [] func267 ?_;simp only[go_sem]
 refine Wk ?_
 exact Rz
def cmpI (x y:Int):Int:=if x<y then -1 else if y<x then 1 else 0
theorem cmp_int (x y:Int):PC prog 244 [ai x,ai y] (ai (cmpI x y)):=by
 refine PE 20 [.tmp 4] [] func244 ?_;simp only[go_sem]
 refine Wk ?_
 refine Sd ?_
 refine(nan_int x).val.use ?_;simp only[go_sem]
 refine Wk ?_
 refine Sd ?_
 refine(nan_int y).val.use ?_;simp only[go_sem]
 refine Wk ?_
 refine Wk ?_
 constructor<;>intro h
 ·refine Wk ?_
  refine Rq ?_
  unfold cmpI;rw[if_pos h]
 ·refine Wk ?_
  constructor<;>intro h2
  ·refine Wk ?_
   refine Rq ?_
   unfold cmpI;rw[if_neg h,if_pos (by omega)]
  ·refine Wk ?_
   refine Rq ?_
   unfold cmpI;rw[if_neg h,if_neg (by omega)]
theorem ints_compare (a b:List Int)(ha:a.length<=1000000):PC prog 213 [aInts a,aInts b] (ai (cmpL a b)):=by
 refine PE 36 [.tmp 4] [] func213 ?_;simp only[go_sem]
 refine Wk ?_
 refine AWp.range' a.length [] [0,1,9,10] (fun k vs L=>L=[]/\k<=b.length/\∀(i:Nat) (hi:i<a.length) (h':i<b.length),i<k->a[i]=b[i]) (by omega) rfl rfl rfl ⟨rfl,by omega,by omega⟩ ?_ ?_
 ·rintro k vs L' hk - ⟨rfl,hkb,hI⟩
  simp only[go_sem]
  have hd:=cmpL_drop k a b (by omega) hkb hI
  rw[List.drop_eq_getElem_cons hk] at hd
  repeat(first|((with_reducible refine AWp.ofC ?_ ?_);exact rfl;simp only[go_sem,getD_map hk])|((with_reducible refine an ?_ ?_);exact Au))
  refine Wk ?_
  constructor<;>intro h1
  ·refine Wk ?_
   refine Rq ?_
   rw[hd,show b.drop k=[] from List.drop_of_length_le (by omega)];rfl
  ·have hkb2:k<b.length:=by omega
   rw[List.drop_eq_getElem_cons hkb2] at hd
   rw[cmpL_cons] at hd
   repeat(first|((with_reducible refine AWp.ofC ?_ ?_);exact rfl;simp only[go_sem,getD_map hkb2])|((with_reducible refine an ?_ ?_);exact Au))
   refine Sd ?_
   refine(cmp_int a[k] b[k]).val.use ?_;simp only[go_sem]
   refine Wk ?_
   constructor<;>intro h2
   ·refine Wk ?_
    refine Rq ?_
    rw[hd];unfold cmpI at h2 ⊢
    by_cases c1:a[k]<b[k]
    ·rw[if_pos c1,if_pos c1]
    ·by_cases c2:b[k]<a[k]
     ·rw[if_neg c1,if_neg c1,if_pos c2,if_pos c2]
     ·rw[if_neg c1,if_neg c2] at h2;exact absurd rfl h2
   ·refine⟨[],List.Sublist.refl _,rfl,by omega,fun i hi h' hik=>?_⟩
    by_cases e:i=k
    ·subst e;unfold cmpI at h2
     by_cases c1:a[i]<b[i]
     ·rw[if_pos c1] at h2;exact absurd h2 (by omega)
     ·by_cases c2:b[i]<a[i]
      ·rw[if_neg c1,if_pos c2] at h2;exact absurd h2 (by omega)
      ·omega
    ·exact hI i hi h' (by omega)
 ·rintro vs L' - ⟨rfl,hkb,hI⟩
  simp only[go_sem]
  have hd:=cmpL_drop a.length a b (by omega) hkb hI
  rw[List.drop_of_length_le (Nat.le_refl _)] at hd
  refine Wk ?_
  constructor<;>intro h1
  ·refine Wk ?_
   refine Rq ?_
   rw[hd,List.drop_eq_getElem_cons (show a.length<b.length by omega)];rfl
  ·refine Wk ?_
   refine Rq ?_
   rw[hd,List.drop_of_length_le (by omega)];rfl
theorem next_cmp (a b:List Int)(ha:a.length<=1000000):PC prog 212 [aInts a,aInts b] (ai (cmpL a b)):=by
 refine PE 8 [.tmp 4] [] func212 ?_;simp only[go_sem]
 refine Wk ?_
 refine Sd ?_
 refine(ints_compare a b ha).val.use ?_;simp only[go_sem]
 refine Wk ?_
 exact Rz
theorem next_same (a b:List Int)(ha:a.length<=1000000):PC prog 215 [aInts a,aInts b] (ab (decide (a=b))):=by
 refine PE 8 [.tmp 4] [] func215 ?_;simp only[go_sem]
 refine Wk ?_
 refine Sd ?_
 refine(ints_equal a b ha).val.use ?_;simp only[go_sem]
 refine Wk ?_
 exact Rz
def sortL (xs:List (List Int)):List (List Int):=sortBy cmpL xs
theorem sort_rows (b cap:Nat)(xs:List (List Int))(hx:∀x ∈ xs,x.length<=1000000)(hl:xs.length<=1000000)(t:TypeId) :
  MCalls prog 211 [.ls b 1 0 xs.length cap,.v (.func (.func 212) #[] #[])] [(b,.row t 1 (xs.map aInts) cap)] fun r L'=>r = .tup []/\L'=[(b,.row t 1 ((sortL xs).map aInts) cap)] :=
 sort_calls' sortRows aInts (fun x=>x.length<=1000000) [] (by simp) (fun w A=>⟨.slice none 0 0,.sl0 _ _ _ (Nat.zero_le _)⟩) (fun x _=>rfl) cmpL swoL cmpL_anti (fun x y h _=>next_cmp x y h) b cap xs hx (by omega)
end Go.AL
end
section
namespace Go.AL
open Go Go.RowKit Proofs.Tryz
variable {C:Cfg} {a b:Code} {Q:AQ} {ρ:Env} {L:AHeap}
theorem AWp.cutF (ks:List Nat)(J:List AV->AHeap->Prop)(h1:AWp C a (cutQ ks J fun _ _ _=>False) ρ [])
  (h2:∀vs L',vs.length=ks.length->J vs L'->AWp C b Q (ks.zip vs) (L ++ L')):AWp C (.seq a b) Q ρ L:=by
 refine AWp.cut ks (fun vs L'=>∃L1,L'=L ++ L1/\J vs L1) ?_ ?_
 ·have h:=AWp.frame L h1
  rw[List.append_nil] at h
  refine h.mono fun e ρ' L'' ⟨L',e1,hq⟩=>?_
  cases e with
  | normal =>
   obtain⟨L1,hs,hj⟩:=hq
   exact⟨L ++ L1,e1 ▸ (List.Sublist.refl _).append hs,L1,rfl,hj⟩
  | _=>exact hq.elim
 ·rintro vs L' hl ⟨L1,rfl,hj⟩
  exact h2 vs L1 hl hj
theorem AWp.viewA {c:Code}{t:TypeId}{k j:Nat}{ys:List AV}{v:AV}{L1:AHeap}(hA:AppSt t k ys v L1)(hj:get ρ j=v)(h:AWp C c Q ((j,.sl k ys) :: ρ) L):AWp C c Q ρ (L ++ L1):=by
 refine AWp.viewP (Lf:=L1) (Lk:=L) (L':=L) List.perm_append_comm (LVw.refl _) [(j,.sl k ys)] (fun p hp=>?_) h
 obtain rfl:=List.mem_singleton.1 hp
 have:=hA.vw []
 rw[List.append_nil] at this
 rw[hj];exact this
theorem AWp.capOk {c:Code}{b k cap:Nat}{t:TypeId}{xs:List AV}(hl:lk L b=some (.row t k xs cap))(h:xs.length<=cap->AWp C c Q ρ L):AWp C c Q ρ L:=fun hok n w0 M A0 a w hs=>by
 obtain⟨A,ds,h1,h2,h3,h4⟩:=hs
 obtain⟨_,_,_,h5,_⟩:=BlkRel.row_iff.1 (h3.lk hl)
 exact h h5 hok n w0 M A0 a w ⟨A,ds,h1,h2,h3,h4⟩
end Go.AL
end
