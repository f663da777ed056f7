/- Texts of this claim's proof: AlLoops, AlRange, AlMix. No condition. -/
import Derived.Test.YtpcmoecaaphjmaaGreatDoorM3
section
namespace Go.AL
open Go Go.RowKit
def countQ (s k m:Nat) (ls ks:List Nat) (ρ0:Env) (I:Nat→List AV→AHeap→Prop) (Q:AQ):AQ
 | .normal,ρ,L=>get ρ s=ai (k+1)∧k+1≤m∧ks.map (get ρ)=ks.map (get ρ0)∧∃L',L'.Sublist L∧I (k+1) (ls.map (get ρ)) L'
 | e,ρ,L=>Q e ρ L
theorem AWp.count {C:Cfg} {c:Code} {Q:AQ} {ρ:Env} {L:AHeap} (s m:Nat) (ls ks:List Nat) (I:Nat→List AV→AHeap→Prop) (hs:get ρ s=ai 0) (hok:(!ks.contains s && !ls.contains s)=true) (h0:I 0 (ls.map (get ρ)) L)
  (round:∀k vs L',k≤m→vs.length=ls.length→I k vs L'→AWp C c (countQ s k m ls ks ρ I Q) ((s,ai k) :: lenv ls ks vs ρ) L'):AWp C (.loop c) Q ρ L:=by
 simp only[Bool.and_eq_true,Bool.not_eq_true',List.contains_eq_mem,decide_eq_false_iff_not] at hok
 obtain⟨hsk,hsl⟩:=hok
 refine AWp.loop (s :: ls) ks (fun vs' L'=>∃(k:Nat) (vs:List AV),vs'=ai (k:Int) :: vs∧k≤m∧I k vs L') (fun vs' _=>match vs' with | .v (.int _ k) :: _=>m - k.toNat|_=>0)
  ⟨0,_,by simp [hs],Nat.zero_le _,h0⟩ ?_
 rintro vs' L' hl ⟨k,vs,rfl,hk,hI⟩
 have hvl:vs.length=ls.length:=by simpa using hl
 refine AWp.st (ρ':=(s,ai k) :: lenv ls ks vs ρ) (L':=L') (fun w0 M A0 a w h=>st_forget h fun i => ?_) ((round k vs L' hk hvl hI).mono fun e ρ' L'' hq => ?_)
 ·by_cases hi:i=s
  ·subst hi
   refine .inr ?_
   simp only[get,if_true,lenv]
   rw[get_append,if_neg (by simp [keep,hsk])]
   simp [get]
  ·refine .inr ?_
   simp only[get,if_neg hi,lenv,List.zip_cons_cons]
   rw[get_append,get_append]
   split
   ·rfl
   ·simp [get,hi]
 ·cases e with
  | normal =>
   obtain⟨g1,g2,g3,L3,g4,g5⟩:=hq
   refine⟨g3,L3,g4,⟨k+1,_,by rw[List.map_cons,g1];rfl,g2,g5⟩,?_⟩
   simp only[List.map_cons,g1]
   have:((k:Int)+1).toNat=k+1:=by omega
   simp only[this,Int.toNat_natCast]
   omega
  | _=>exact hq
def cutQ (ks:List Nat) (J:List AV→AHeap→Prop) (Q:AQ):AQ
 | .normal,ρ,L=>∃L',L'.Sublist L∧J (ks.map (get ρ)) L'
 | e,ρ,L=>Q e ρ L
theorem AWp.cut {C:Cfg} {a b:Code} {Q:AQ} {ρ:Env} {L:AHeap} (ks:List Nat) (J:List AV→AHeap→Prop) (h1:AWp C a (cutQ ks J Q) ρ L) (h2:∀vs L',vs.length=ks.length→J vs L'→AWp C b Q (ks.zip vs) L') :
  AWp C (.seq a b) Q ρ L:=by
 refine AWp.seq (h1.mono fun e ρ' L' hq => ?_)
 cases e with
 | normal =>
  obtain⟨L1,hs,hj⟩:=hq
  exact AWp.st (fun w0 M A0 a w h=>st_sub (st_forget h (get_zip ks ρ')) hs) (h2 _ L1 (by simp) hj)
 | _=>exact hq
def rOk (s n t t2:Nat) (ls ks:List Nat):Bool:=ks.contains n && !ks.contains s && !ls.contains s && t != s && !ks.contains t && !ks.contains t2 && !ls.contains t && !ls.contains t2
theorem AWp.range' {C:Cfg} {id i1 i2 t s n t2:Nat} {ty1 ty2 ty3 ty4 r1 r2 r3:TypeId} {p1 p2 p3:String} {a1 a2 a3:Array Edge} {body:Code} {Q:AQ} {ρ:Env} {L:AHeap}
  (m:Nat) (ls ks:List Nat) (I:Nat→List AV→AHeap→Prop) (hm:m≤9223372036854775806) (hs:get ρ s=ai 0) (hn:get ρ n=ai m) (hok:rOk s n t t2 ls ks=true)
  (h0:I 0 (ls.map (get ρ)) L)
  (round:∀k vs L',k<m→vs.length=ls.length→I k vs L'→AWp C body (rangeQ id s k ls ks ρ (I (k+1)) Q) ((s,ai k) :: lenv ls ks vs ρ) L')
  (done:∀vs L',vs.length=ls.length→I m vs L'→Q .normal ((s,ai m) :: lenv ls ks vs ρ) L') :
  AWp C (.block id (.loop (.seq (.region i1 #[⟨some t,.binOp .lss ty1 (.tmp s) (.tmp n) ty2,r1,p1,a1,none⟩] false) (.seq (.cond (.tmp t) .skip (.exit id)) (.seq body
   (.region i2 #[⟨some t2,.binOp .add ty3 (.tmp s) (.const (.int .i64 1)) ty4,r2,p2,a2,none⟩,⟨some s,.move (.tmp t2),r3,p3,a3,none⟩] false)))))) Q ρ L:=by
 simp only[rOk,Bool.and_eq_true,Bool.not_eq_true',List.contains_eq_mem,decide_eq_false_iff_not,decide_eq_true_eq,bne_iff_ne,ne_eq] at hok
 obtain⟨⟨⟨⟨⟨⟨⟨h1,h2⟩,h3⟩,h4⟩,h5⟩,h6⟩,h7⟩,h8⟩:=hok
 exact AWp.range m ls ks I hm hs hn h1 h2 h3 h4 h5 h6 h7 h8 h0 round done
inductive AppSt (t:TypeId) (k:Nat):List AV→AV→AHeap→Prop
 | nil:AppSt t k [] anil []
 | row (b:Nat) (ys:List AV) (cap:Nat):AppSt t k ys (.ls b k 0 ys.length cap) [(b,.row t k ys cap)]
theorem AppSt.vw {t:TypeId} {k:Nat} {ys:List AV} {v:AV} {L:AHeap} (h:AppSt t k ys v L) (Lr:AHeap):Vw (L ++ Lr) v (.sl k ys):=by
 cases h with
 | nil=>exact .nil k
 | row b ys cap=>exact Vw.ofLs (t:=t) (cap:=cap) (if_pos rfl) rfl
theorem AppSt.fo {t:TypeId} {k:Nat} {ys:List AV} {v:AV} {L:AHeap} (h:AppSt t k ys v L):fo v=(True,v):=by cases h <;> rfl
theorem AppSt.own {t:TypeId} {k:Nat} {ys:List AV} {v:AV} {L:AHeap} (h:AppSt t k ys v L) (hy:∀y ∈ ys,Own y∧∀c ∈ y.cells,Own c):Own v∧∀x ∈ L,OwnB x.2:=by
 cases h with
 | nil=>exact⟨Own.v _,fun x hx=>by cases hx⟩
 | row b ys cap=>exact⟨Own.ls _ _ _ _ _,fun x hx=>by simp at hx;subst hx;exact hy⟩
theorem own_ints (l:List Int):∀y ∈ l.map ai,Own y∧∀c ∈ y.cells,Own c:=fun y hy=>by
 obtain⟨n,_,rfl⟩:=List.mem_map.1 hy
 exact⟨Own.v _,fun c hc=>by simp [AV.cells] at hc;subst hc;exact Own.v _⟩
theorem AppSt.inv {t:TypeId} {k:Nat} {ys:List AV} {v:AV} {L:AHeap} (h:AppSt t k ys v L):(ys=[]∧v=anil∧L=[])∨∃b cap,v = .ls b k 0 ys.length cap∧L=[(b,.row t k ys cap)]:=by
 cases h with
 | nil=>exact .inl ⟨rfl,rfl,rfl⟩
 | row b ys cap=>exact .inr ⟨b,cap,rfl,rfl⟩
attribute [go_sem] countQ cutQ
end Go.AL
end
section
namespace Go.AL
open Go Go.RowKit
theorem StW.rebase {w0:World} {M A0:Foot} {N:Nat} {ρ:Env} {Lr L:AHeap} {a:Act} {w:World} {A:Foot} {ds:List Nat} (h:StW w0 M A0 N ρ (Lr ++ L) a w A ds) :
  StW w (fun b=>keysOf L b∨b ∈ ds) A N ρ L a w A ds :=
 ⟨Fr.refl _ _,fun _ h => .inl h,h.l.sub (List.sublist_append_right _ _),fun x hx => .inl (.inl ⟨x,hx,rfl⟩),h.size,h.env,h.dfs,
  fun D hD=>⟨(h.dblk D hD).1,(h.dblk D hD).2.1,fun ⟨x,hx,e⟩=>(h.dblk D hD).2.2.1 ⟨x,List.mem_append_right _ hx,e⟩,.inl (.inr hD)⟩,h.dnd⟩
theorem StW.unbase {w0:World} {M A0:Foot} {N:Nat} {ρ ρ':Env} {Lr L L':AHeap} {a a':Act} {w w':World} {A A':Foot} {ds ds':List Nat} (h:StW w0 M A0 N ρ (Lr ++ L) a w A ds)
  (k:StW w (fun b=>keysOf L b∨b ∈ ds) A N ρ' L' a' w' A' ds'):StW w0 M A0 N ρ' (Lr ++ L') a' w' (fun b=>A b∨A' b) ds':=by
 have hM:∀b,keysOf L b∨b ∈ ds→M b∨w0.heap.size≤b:=fun b hb=>by
  rcases hb with ⟨x,hx,rfl⟩|hb
  ·exact h.lown x (List.mem_append_right _ hx)
  ·exact(h.dblk b hb).2.2.2
 have hsz:=h.fr.size
 have hnd:=h.l.nodup
 rw[List.map_append,List.nodup_append] at hnd
 have hAM:∀b,A b→¬(keysOf L b∨b ∈ ds):=fun b hb hm=>by
  rcases hm with ⟨x,hx,rfl⟩|hm
  ·exact h.l.disj x (List.mem_append_right _ hx) hb
  ·exact(h.dblk b hm).2.1 hb
 have hrM:∀x ∈ Lr,¬(keysOf L x.1∨x.1 ∈ ds):=fun x hx hm=>by
  rcases hm with ⟨y,hy,e⟩|hm
  ·exact hnd.2.2 _ (List.mem_map_of_mem hx) _ (List.mem_map_of_mem hy) e.symm
  ·exact(h.dblk _ hm).2.2.1 ⟨x,List.mem_append_left _ hx,rfl⟩
 have hrlt:∀x ∈ Lr,x.1<w.heap.size:=fun x hx=>(h.l.blk x (List.mem_append_left _ hx)).lt
 have keepA:∀b,A b→w'.heap[b]?=w.heap[b]?:=fun b hb=>k.fr.block b (h.l.abnd b hb) (hAM b hb)
 refine⟨h.fr.trans k.fr hM,fun b hb => ?_,⟨fun b hb => ?_,fun x hx => ?_,?_,fun x hx => ?_,k.l.globL (fun _ _=>rfl) fun _ h => .inr h⟩,fun x hx => ?_,k.size,fun i=>(k.env i).later (fun _ _=>rfl) (fun _ h => .inr h),k.dfs,fun D hD => ?_,k.dnd⟩
 ·rcases hb with hb|hb
  ·exact h.asub b hb
  ·rcases k.asub b hb with h1|h1|h1
   ·exact h.asub b h1
   ·exact .inr (hM b h1)
   ·exact .inr (.inr (by omega))
 ·rcases hb with hb|hb
  ·exact Nat.lt_of_lt_of_le (h.l.abnd b hb) k.fr.size
  ·exact k.l.abnd b hb
 ·rcases List.mem_append.1 hx with hx|hx
  ·rintro(hb|hb)
   ·exact h.l.disj x (List.mem_append_left _ hx) hb
   ·rcases k.asub _ hb with h1|h1|h1
    ·exact h.l.disj x (List.mem_append_left _ hx) h1
    ·exact hrM x hx h1
    ·have:=hrlt x hx;omega
  ·rintro(hb|hb)
   ·rcases k.lown x hx with h1|h1
    ·exact hAM _ hb h1
    ·have:=h.l.abnd _ hb;omega
   ·exact k.l.disj x hx hb
 ·rw[List.map_append,List.nodup_append]
  refine⟨hnd.1,k.l.nodup,fun p hp q hq e => ?_⟩
  subst e
  obtain⟨x,hx,rfl⟩:=List.mem_map.1 hp
  obtain⟨y,hy,e⟩:=List.mem_map.1 hq
  rcases k.lown y hy with h1|h1
  ·exact hrM x hx (e ▸ h1)
  ·have:=hrlt x hx;omega
 ·rcases List.mem_append.1 hx with hx|hx
  ·exact(h.l.blk x (List.mem_append_left _ hx)).later (k.fr.block _ (hrlt x hx) (hrM x hx)) keepA (fun _ h => .inl h)
  ·exact(k.l.blk x hx).later rfl (fun _ _=>rfl) (fun _ h => .inr h)
 ·rcases List.mem_append.1 hx with hx|hx
  ·exact h.lown x (List.mem_append_left _ hx)
  ·rcases k.lown x hx with h1|h1
   ·exact hM _ h1
   ·exact .inr (by omega)
 ·obtain⟨h1,h2,h3,h4⟩:=k.dblk D hD
  refine⟨h1,?_,?_,?_⟩
  ·rintro(hb|hb)
   ·rcases h4 with h4|h4
    ·exact hAM D hb h4
    ·have:=h.l.abnd D hb;omega
   ·exact h2 hb
  ·rintro⟨x,hx,e⟩
   rcases List.mem_append.1 hx with hx|hx
   ·rcases h4 with h4|h4
    ·exact hrM x hx (e ▸ h4)
    ·have:=hrlt x hx;omega
   ·exact h3 ⟨x,hx,e⟩
  ·rcases h4 with h4|h4
   ·exact hM D h4
   ·exact .inr (by omega)
theorem AWp.frame {C:Cfg} {c:Code} {Q:AQ} {ρ:Env} {L:AHeap} (Lr:AHeap) (h:AWp C c Q ρ L):AWp C c (fun e ρ' L''=>∃L',L''=Lr ++ L'∧Q e ρ' L') ρ (Lr ++ L):=fun hok n w0 M A0 a w hs=>by
 obtain⟨A,ds,hs⟩:=st_iff.1 hs
 refine wpIn_mono (h hok n w _ A a w (st_iff.2 ⟨A,ds,hs.rebase⟩)) ?_
 rintro e a' w' ⟨ρ',L',hq,hk⟩
 obtain⟨A',ds',hk⟩:=st_iff.1 hk
 exact⟨ρ',_,⟨L',rfl,hq⟩,st_iff.2 ⟨_,ds',hs.unbase hk⟩⟩
def IterC (P:Program) (g:AV) (xs:List (List AV)):Prop :=
 ∀(y:AV) (L:AHeap) (I:Nat→AHeap→Prop) (S:AHeap→Prop),fo y=(True,y)→I 0 L →
  (∀(k:Nat) x L',xs[k]?=some x→I k L'→MVal P y x L' fun r L''=>(r=ab true∧I (k+1) L'')∨(r=ab false∧S L''))→MVal P g [y] L fun _ L'=>I xs.length L'∨S L'
def jcode:Exit→Option Code
 | .ret=>some .ret
 | .exit id=>some (.exit id)
 | .goto t=>some (.goto t)
 | _=>none
def bodyQ (I':AHeap→Prop) (J:Exit→AHeap→Prop):AQ
 | .normal,_,L=>∃L',L'.Sublist L∧I' L'
 | .panic _,_,_=>False
 | .outgrown,_,_=>False
 | e,_,L=>∃L',L'.Sublist L∧J e L'
def noQ:AQ:=fun _ _ _=>False
def putAll:List Nat→List AV→Env→Env
 | p :: ps,x :: xs,ρ=>putAll ps xs ((p,x) :: ρ)
 | _,_,ρ=>ρ
theorem putAll_ok {w:World} {A:Foot} {N:Nat} : ∀(ps:List Nat) (xs:List AV) (us:List Value) (ρ:Env) (tmps:Array Value),ps.all (fun p=>decide (p<N))=true→Rels w A xs us→ps.length=xs.length→tmps.size=N →
  (∀i,Rel w A (get ρ i) (tmps.getD i undef))→((ps.zip us).foldl (fun tmps (t,a)=>tmps.setIfInBounds t a) tmps).size=N ∧
   ∀i,Rel w A (get (putAll ps xs ρ) i) (((ps.zip us).foldl (fun tmps (t,a)=>tmps.setIfInBounds t a) tmps).getD i undef)
 | [],xs,us,ρ,tmps,_,_,_,hs,hρ=>⟨hs,by cases xs <;> exact hρ⟩
 | p :: ps,[],us,ρ,tmps,_,_,hl,_,_=>by simp at hl
 | p :: ps,x :: xs,us,ρ,tmps,hp,hr,hl,hs,hρ=>by
  obtain⟨u,us',rfl,h1,h2⟩:=hr.inv_cons
  simp only[List.all_cons,Bool.and_eq_true,decide_eq_true_eq] at hp
  refine putAll_ok ps xs us' ((p,x) :: ρ) (tmps.setIfInBounds p u) hp.2 h2 (by simpa using hl) (by simpa using hs) fun i => ?_
  simp only[get]
  by_cases hi:i=p
  ·subst hi
   rw[if_pos rfl]
   have:i<tmps.size:=by rw[hs];exact hp.1
   simpa [Array.getD,this] using h1
  ·rw[if_neg hi]
   have:=hρ i
   simpa [Array.getD_eq_getD_getElem?,Array.getElem?_setIfInBounds_ne (Ne.symm hi)] using this
theorem keep_ok {w:World} {A:Foot} {ks:List Nat} {cs:List AV} {us:Array Value} (h:∀(i:Nat) k c,ks[i]?=some k→cs[i]?=some c→Rel w A c (us.getD k undef)):∀i,Rel w A (get (ks.zip cs) i) (us.getD i undef):=by
 intro i
 induction ks generalizing cs with
 | nil=>exact .any _
 | cons k ks ih =>
  cases cs with
  | nil=>exact .any _
  | cons c cs =>
   simp only[List.zip_cons_cons,get]
   split
   ·rename_i e;subst e;exact h 0 _ _ rfl rfl
   ·exact ih fun j k c hj hc=>h (j+1) k c (by simpa using hj) (by simpa using hc)
theorem keep_zip (ks:List Nat) (ρ:Env):ks.zip (ks.map (get ρ))=keep ks ρ:=by
 induction ks with
 | nil=>rfl
 | cons k ks ih=>simp only[keep,List.map_cons,List.zip_cons_cons] at *;rw[ih]
theorem StW.setObj {w0:World} {M A0:Foot} {N:Nat} {ρ:Env} {L:AHeap} {a:Act} {w:World} {A:Foot} {ds:List Nat} {l:Nat} {o o':Obj} (h:StW w0 M A0 N ρ ((l,.obj o) :: L) a w A ds) :
  StW w0 M A0 N ρ ((l,.obj o') :: L) a (w.putObj l o') A ds:=by
 have hlt:=(h.l.blk (l,.obj o) List.mem_cons_self).lt
 have:=h.set (b:=l) (old:=.obj o) (x:=.obj o') (by simp [lk]) (w':=w.putObj l o') (fun m hm=>World.putObj_heap_other hm) (by simp) rfl rfl rfl rfl (World.putObj_heap_same hlt)
 simpa [upd] using this
theorem StW.mark {w0:World} {M A0:Foot} {N:Nat} {ρ:Env} {L:AHeap} {a:Act} {w:World} {A:Foot} {ds:List Nat} {D:Nat} (h:StW w0 M A0 N ρ ((D,.obj (.deferred (some []))) :: L) a w A ds) :
  StW w0 M A0 N ρ L { a with defers:=[{ target:=.collected D,args:=#[] }] ++ a.defers } w A (D :: ds):=by
 have hs:=h.sub (List.sublist_cons_self _ _)
 have hn:=h.l.nodup
 simp only[List.map_cons,List.nodup_cons] at hn
 refine⟨hs.fr,hs.asub,hs.l,hs.lown,hs.size,hs.env,by simp [h.dfs],fun E hE => ?_,List.nodup_cons.2 ⟨fun hD=>(h.dblk D hD).2.2.1 ⟨_,List.mem_cons_self,rfl⟩,h.dnd⟩⟩
 rcases List.mem_cons.1 hE with rfl|hE
 ·refine⟨h.l.blk _ List.mem_cons_self,h.l.disj _ List.mem_cons_self,fun ⟨x,hx,e⟩=>hn.1 (e ▸ List.mem_map_of_mem hx),h.lown _ List.mem_cons_self⟩
 ·exact hs.dblk E hE
theorem AWp.rangeFunc {C:Cfg} {g:Operand} {ps:Array Tmp} {assign body:Code} {Q:AQ} {ρ:Env} {L:AHeap} (hr:C.r=none) (ks:List Nat) {f:FuncId} {caps:List AV} (xs:List (List AV)) (I:Nat→AHeap→Prop) (J:Exit→AHeap→Prop)
  (hgc:fo (ev ρ g)=(True,.clo f caps)) (hg:IterC C.P (.clo f caps) xs) (hxs:∀x ∈ xs,x.length=ps.size) (h0:I 0 L)
  (round:∀(k:Nat) x L' l,xs[k]?=some x→I k L'→AWp { C with r:=some l } assign (thenQ (AWp { C with r:=some l } body (bodyQ (I (k+1)) J)) noQ) (putAll ps.toList x (keep ks ρ)) L')
  (done:∀L',I xs.length L'→Q .normal ρ L') (jump:∀e L',J e L'→Q e ρ L'):AWp C (.rangeFunc g ps assign body) Q ρ L:=by
 intro hok n w0 M A0 a w hs
 simp only[codeOk,Bool.and_eq_true] at hok
 obtain⟨⟨hps,hok1⟩,hok2⟩:=hok
 obtain⟨A,ds,hs⟩:=st_iff.1 hs
 rw[hr]
 refine wpIn_rangeFunc fun fn _ => ?_
 generalize hD:w.heap.size=D
 let rec0:Loop:={ state:=.ready,pending:=none,fn,tmps:=a.tmps,params:=ps,assign,body,defers:=D }
 have hs1:=hs.alloc (o:=.deferred (some [])) (x:=.obj (.deferred (some []))) (World.alloc_heap_new _ _)
 have hs2:=hs1.alloc (o:=.loop rec0) (x:=.obj (.loop rec0)) (World.alloc_heap_new _ _)
 have hsz1:(w.alloc (.deferred (some []))).heap.size=D+1:=by rw[World.size_alloc,hD]
 rw[hsz1,hD] at hs2
 generalize hw2:(w.alloc (.deferred (some []))).alloc (.loop rec0)=w2 at hs2
 have hgr:Rel w2 A (.clo f caps) (a.eval g):=by
  have:=fo_ok (hs2.ev g) (by rw[hgc];trivial)
  rwa [hgc] at this
 let y:AV:=.yl (D+1) a.tmps ks (ks.map (get ρ))
 let I1:Nat→AHeap→Prop:=fun k L'=>∃L2,L'=(D+1,.obj (.loop rec0)) :: (D,.obj (.deferred (some []))) :: L2∧I k L2
 let S1:AHeap→Prop:=fun L'=>∃L2 e c,L'=(D+1,.obj (.loop { rec0 with state:=.done,pending:=some c })) :: (D,.obj (.deferred (some []))) :: L2∧jcode e=some c∧J e L2
 have hround:∀(k:Nat) x L',xs[k]?=some x→I1 k L'→MVal C.P y x L' fun r L''=>(r=ab true∧I1 (k+1) L'')∨(r=ab false∧S1 L''):=by
  rintro k x L' hx ⟨L2,rfl,hI⟩ m w' A' gv vs hL hyr hvs
  have hyr':gv = .func (.yield (D+1)) #[] #[]∧∀(i:Nat) k c,ks[i]?=some k→(ks.map (get ρ))[i]?=some c→Rel w' A' c (a.tmps.getD k undef):=by
   have hy:y = .yl (D+1) a.tmps ks (ks.map (get ρ)):=rfl
   rw[hy] at hyr
   cases hyr with
   | yl _ _ _ _ hcap=>exact⟨rfl,hcap⟩
  obtain⟨rfl,hcap⟩:=hyr'
  have hrec:w'.heap[D+1]?=some (.loop rec0):=hL.blk _ List.mem_cons_self
  have hxl:=hxs x (List.mem_of_getElem? hx)
  have hvl:vs.toArray.size=rec0.params.size:=by simp [hvs.1,hxl,rec0]
  refine⟨rfl,rfl,fn,_,assign,body,run_yield hrec hvl,roundIn_of_wpIn trivial ?_⟩
  have henv:=keep_ok hcap
  rw[keep_zip] at henv
  have hput:=putAll_ok ps.toList x vs (keep ks ρ) a.tmps hps hvs (by simp [hxl]) hs.size henv
  have hfold:(rec0.params.zip vs.toArray).foldl (fun tmps (t,a)=>tmps.setIfInBounds t a) rec0.tmps=(ps.toList.zip vs).foldl (fun tmps (t,a)=>tmps.setIfInBounds t a) a.tmps:=by
   show (ps.zip vs.toArray).foldl (fun tmps (t,a)=>tmps.setIfInBounds t a) a.tmps=_
   rw[← Array.foldl_toList]
   simp
  rw[hfold]
  have hst:StW w' (keysOf ((D+1,.obj (.loop rec0)) :: (D,.obj (.deferred (some []))) :: L2)) A' C.N (putAll ps.toList x (keep ks ρ)) ((D+1,.obj (.loop rec0)) :: (D,.obj (.deferred (some []))) :: L2)
    { tmps:=(ps.toList.zip vs).foldl (fun tmps (t,a)=>tmps.setIfInBounds t a) a.tmps,defers:=[] } w' A' [] :=
   ⟨Fr.refl _ _,fun _ h => .inl h,hL,fun x hx => .inl ⟨x,hx,rfl⟩,hput.1,hput.2,rfl,fun D hD=>(by cases hD),.nil⟩
  have hwp:=(round k x L2 (D+1) hx hI).frame [(D+1,.obj (.loop rec0)),(D,.obj (.deferred (some [])))] hok1 m w' _ A' _ w' (st_iff.2 ⟨A',[],hst⟩)
  refine wpIn_mono hwp ?_
  rintro e a1 wa ⟨ρ1,_,⟨L1,rfl,hq⟩,hsa⟩
  cases e with
  | normal =>
   obtain⟨Aa,da,hsa⟩:=st_iff.1 hsa
   have hreca:wa.heap[D+1]?=some (.loop rec0):=hsa.l.blk _ List.mem_cons_self
   refine⟨_,run_beginRound hreca rfl,?_⟩
   have hsb:=hsa.setObj (o':=.loop { rec0 with state:=.busy })
   have hwb:=(show AWp { C with r:=some (D+1) } body (bodyQ (I (k+1)) J) ρ1 L1 from hq).frame [(D+1,.obj (.loop { rec0 with state:=.busy })),(D,.obj (.deferred (some [])))] hok2 m w' _ A' a1 _ (st_iff.2 ⟨Aa,da,hsb⟩)
   refine wpIn_mono hwb ?_
   rintro e2 a2 wb ⟨ρ2,_,⟨Lb,rfl,hq2⟩,hsc⟩
   obtain⟨Ac,dc,hsc⟩:=st_iff.1 hsc
   have hrecb:wb.heap[D+1]?=some (.loop { rec0 with state:=.busy }):=hsc.l.blk _ List.mem_cons_self
   have fin:∀(j:Option Code) (L3:AHeap),L3.Sublist Lb→((j=none∧I (k+1) L3)∨∃e c,j=some c∧jcode e=some c∧J e L3) →
     ∃v w3,(Instr.endRound (D+1) j).run C.P wb = .ok v w3∧cpost w' A' ((D+1,.obj (.loop rec0)) :: (D,.obj (.deferred (some []))) :: L2) (fun r L''=>(r=ab true∧I1 (k+1) L'')∨(r=ab false∧S1 L'')) (.returned v) w3:=fun j L3 hsub hj=>by
    have hsd:=(hsc.setObj (o':=.loop { rec0 with state:=if j.isNone then .ready else .done,pending:=j })).sub (List.Sublist.cons_cons _ (List.Sublist.cons_cons _ hsub))
    refine⟨_,_,run_endRound j hrecb,.bool j.isNone,ab j.isNone,_,Ac,rfl,?_,hsd.fr,hsd.asub,hsd.l,hsd.lown,.v _⟩
    rcases hj with ⟨rfl,hI'⟩|⟨e,c,rfl,hc,hJ⟩
    ·exact .inl ⟨rfl,L3,rfl,hI'⟩
    ·exact .inr ⟨rfl,L3,e,c,rfl,hc,hJ⟩
   cases e2 with
   | normal=>obtain⟨L3,h1,h2⟩:=hq2;exact fin none L3 h1 (.inl ⟨rfl,h2⟩)
   | ret=>obtain⟨L3,h1,h2⟩:=hq2;exact fin (some .ret) L3 h1 (.inr ⟨.ret,_,rfl,rfl,h2⟩)
   | exit id=>obtain⟨L3,h1,h2⟩:=hq2;exact fin (some (.exit id)) L3 h1 (.inr ⟨.exit id,_,rfl,rfl,h2⟩)
   | goto t=>obtain⟨L3,h1,h2⟩:=hq2;exact fin (some (.goto t)) L3 h1 (.inr ⟨.goto t,_,rfl,rfl,h2⟩)
   | panic c=>exact hq2.elim
   | outgrown=>exact hq2.elim
  | exit id=>exact hq.elim
  | goto l=>exact hq.elim
  | ret=>exact hq.elim
  | panic c=>exact hq.elim
  | outgrown=>exact hq.elim
 have hM:=hg y _ I1 S1 rfl ⟨L,rfl,h0⟩ hround (n - 1) w2 A (a.eval g) [.func (.yield (D+1)) #[] #[]] hs2.l hgr
  (Rels.cons (.yl _ _ _ _ fun i k c hk hc=>by
   rw[List.getElem?_map,hk] at hc
   cases hc
   exact hs2.env k) Rels.nil)
 have hgv:∃us,a.eval g = .func (.func f) #[] us:=by
  generalize a.eval g=u at hgr
  cases hgr with
  | clo _ _ us=>exact⟨us,rfl⟩
 obtain⟨us,hgv⟩:=hgv
 rw[hgv] at hM
 obtain⟨-,hen,hc⟩:=hM
 have hhen:=hen (#[.func (.yield (D+1)) #[] #[]] ++ us) w2
 refine⟨D+1,[{ target:=.collected D,args:=#[] }],w2,{ target:=.fn (.func f) us,args:=#[.func (.yield (D+1)) #[] #[]] },w2,f,_,w2,?_,?_,fun _ _=>trivial,?_,fun h=>by simp [Fw,Fence.wide] at h,hc.mono ?_⟩
 ·have:=run_enterLoop_outer (P:=C.P) (w:=w) fn a.tmps ps assign body
  rw[hD] at this
  rw[← hw2]
  exact this
 ·have he:a.eval (.const (.func (.yield (D+1)) #[] #[])) = .func (.yield (D+1)) #[] #[]:=rfl
  simp [resolve,hgv,he,Deferred.ofValue]
 ·simpa [invoke] using hhen
 ·intro e w3 hp
  obtain⟨v,r,L',A',rfl,hK,hs3,-⟩:=hs2.behind hp
  have fin:∀(j:Option Code) (st:LoopState) (L2:AHeap),L'=(D+1,.obj (.loop { rec0 with state:=st,pending:=j })) :: (D,.obj (.deferred (some []))) :: L2→st ≠ .busy →
    ∃w4,(Instr.endLoop (D+1)).run C.P w3 = .ok j w4∧St w0 M A0 C.N ρ L2 { a with defers:=[{ target:=.collected D,args:=#[] }] ++ a.defers } w4:=fun j st L2 hL hb=>by
   subst hL
   have hrec:w3.heap[D+1]?=some (.loop { rec0 with state:=st,pending:=j }):=hs3.l.blk _ List.mem_cons_self
   have hs4:=(hs3.setObj (o':=.loop { rec0 with state:=.exhausted,pending:=j })).sub (List.sublist_cons_self _ _)
   exact⟨_,run_endLoop hrec hb,st_iff.2 ⟨_,_,hs4.mark⟩⟩
  rcases hK with ⟨L2,hL,hI⟩|⟨L2,e,c,hL,hjc,hJ⟩
  ·obtain⟨w4,h1,h2⟩:=fin none .ready L2 hL (by simp)
   exact⟨none,w4,h1,ρ,L2,done L2 hI,h2⟩
  ·obtain⟨w4,h1,h2⟩:=fin (some c) .done L2 hL (by simp)
   refine⟨some c,w4,h1,?_⟩
   have hq:cq C w0 M A0 Q e { a with defers:=[{ target:=.collected D,args:=#[] }] ++ a.defers } w4:=⟨ρ,L2,jump e L2 hJ,h2⟩
   cases e with
   | ret=>simp only[jcode] at hjc;cases hjc;exact wpIn_ret hq
   | exit id=>simp only[jcode] at hjc;cases hjc;exact wpIn_exit hq
   | goto t=>simp only[jcode] at hjc;cases hjc;exact wpIn_goto hq
   | normal=>simp [jcode] at hjc
   | panic c=>simp [jcode] at hjc
   | outgrown=>simp [jcode] at hjc
theorem cpost.permOut {w:World} {A:Foot} {L:AHeap} {K K2:AV→AHeap→Prop} {e:Ending} {w':World} (h:cpost w A L K e w') (hk:∀r L',K r L'→∃L2,L'.Perm L2∧K2 r L2):cpost w A L K2 e w':=by
 obtain⟨v,r,L',A',h1,h2,h3,h4,h5,h6,h7⟩:=h
 obtain⟨L2,hp,h2'⟩:=hk r L' h2
 exact⟨v,r,L2,A',h1,h2',h3,h4,h5.perm hp,fun x hx=>h6 x (hp.mem_iff.2 hx),h7⟩
theorem MVal.pass {P:Program} {g:AV} {args args':List AV} {L Lf Li Lr:AHeap} {K K2:AV→AHeap→Prop} (hp:L.Perm (Lf ++ (Li ++ Lr))) (hv:Vws Lf args args') (h:MVal P g args' Li K)
  (hk:∀r L1,K r L1→∃L2,(L1 ++ Lr).Perm L2∧K2 r L2):MVal P g args L K2:=fun n w A gv vs hL hgr hr=>by
 have h1:=(MVal.frame (Lr:=Lr) h)
 have hL1:LRel w (fun b=>A b∨keysOf Lf b) (Li ++ Lr):=hL.viewed hp (LVw.refl _)
 have hr1:Rels w (fun b=>A b∨keysOf Lf b) args' vs:=⟨by rw[hr.1,hv.1],fun i a' u ha' hu=>by
  have hx:=List.getElem?_eq_getElem (show i<args.length by have:=hv.1;have:=(List.getElem?_eq_some_iff.1 ha').1;omega)
  exact hL.view hp (hv.2 i _ _ hx ha') (hr.2 i _ _ hx hu)⟩
 refine(h1 n w _ gv vs hL1 (hgr.later (fun _ _=>rfl) (fun _ h => .inl h)) hr1).mono fun e w' hc => ?_
 have hc:=hc.permOut (K2:=K2) (fun r L' ⟨L1,e1,hK⟩=>by subst e1;exact hk r L1 hK)
 obtain⟨v,r,L',A',h1,h2,h3,h4,h5,h6,h7⟩:=hc
 have hsub:∀b,keysOf (Li ++ Lr) b→keysOf L b:=fun b ⟨x,hx,e⟩=>⟨x,hp.mem_iff.2 (List.mem_append_right _ hx),e⟩
 refine⟨v,r,L',A',h1,h2,⟨h3.os,h3.tape,h3.output,h3.size,fun k hk hn=>h3.block k hk fun hh=>hn (hsub k hh),h3.drawn⟩,fun b hb => ?_,h5,fun x hx=>(h6 x hx).imp (hsub _) id,h7⟩
 rcases h4 b hb with (h|⟨x,hx,e⟩)|h|h
 ·exact .inl h
 ·exact .inr (.inl ⟨x,hp.mem_iff.2 (List.mem_append_left _ hx),e⟩)
 ·exact .inr (.inl (hsub b h))
 ·exact .inr (.inr h)
attribute [go_sem] putAll bodyQ noQ
end Go.AL
end
section
namespace Go.AL
open Go Go.RowKit
def tOp (o:Oper):Bool :=
 match o.op with
 | .alloc _=>true
 | .box _ _=>true
 | .buildSlice _ _ _=>true
 | .store _ _ _=>true
 | .makeSlice _ _ _=>true
 | .makeMap _ none=>true
 | .mapUpdate _ _ _ _=>true
 | .mapEntry _ _ _=>true
 | .entryStore _ _ _ _=>true
 | .call c=>match c.callee,c.args.toList,c.argTypes.toList with
  | .builtin .append,[_,_],[_,_]=>true
  | .builtin .copy,[_,_],[_,_]=>true
  | .value _,_,_=>true
  | _,_,_=>false
 | _=>false
def aopX (C:Cfg) (o:Oper) (ρ:Env) (L:AHeap) (K:ARes):Prop :=
 match aval C.P ρ L o.op with
 | some (c,x)=>c∧K (put ρ o.dst x) L
 | none=>if tOp o then aop2 C o ρ L K else False
theorem aopX_aop {C:Cfg} {o:Oper} {ρ:Env} {L:AHeap} {K:ARes} (h:aopX C o ρ L K):aop C o ρ L K:=by
 unfold aopX at h;unfold aop
 cases hv:aval C.P ρ L o.op with
 | some cx=>rw[hv] at h;exact h
 | none =>
  rw[hv] at h
  by_cases ht:tOp o=true
  ·have h:if tOp o then aop2 C o ρ L K else False:=h
   rw[if_pos ht] at h;exact h
  ·have h:if tOp o then aop2 C o ρ L K else False:=h
   rw[if_neg ht] at h;exact h.elim
section
variable {C:Cfg} {o:Oper} {ρ ρ':Env} {L:AHeap} {K K':ARes}
theorem aop2_tr (hag:∀x ∈ o.op.operands,ev ρ' x=ev ρ x) (ht:tOp o=true) (k1:∀x L,K (put ρ o.dst x) L→K' (put ρ' o.dst x) L) (k2:∀s y x L,(∃t x',o.op = .store t (.tmp s) x')→K ((s,y) :: put ρ o.dst x) L→K' ((s,y) :: put ρ' o.dst x) L)
  (h:aop2 C o ρ L K):aop2 C o ρ' L K':=by
 unfold aop2 at *
 split at h
 ·unfold aAlloc at *;split at h
  ·exact⟨h.1,fun b hb=>k1 _ _ (h.2 b hb)⟩
  ·exact h.elim
 ·rename_i t x hop
  rw[hop] at hag
  have e:ev ρ' x=ev ρ x:=hag x (by simp [Op.operands])
  rw[e]
  unfold aBox at *;split at h
  ·refine⟨h.1,h.2.1,?_⟩
   have h:=h.2.2
   split at h
   ·rename_i hz;rw[if_pos hz];exact k1 _ _ h
   ·rename_i hz;rw[if_neg hz];exact fun b hb=>k1 _ _ (h b hb)
  ·exact h.elim
 ·rename_i t len parts hop
  rw[hop] at hag
  have e:(parts.toList.map fun p=>(p.1,ev ρ' p.2))=parts.toList.map fun p=>(p.1,ev ρ p.2):=List.map_congr_left fun p hp=>by
   rw[hag p.2 (by simp only[Op.operands,List.mem_toArray,List.mem_map,Array.mem_map];first|exact⟨p,hp,rfl⟩|exact⟨p,by simpa using hp,rfl⟩)]
  rw[e]
  unfold aBuildSlice at *;split at h
  ·split at h
   ·refine⟨h.1,h.2.1,h.2.2.1,h.2.2.2.1,h.2.2.2.2.1,?_⟩
    have h:=h.2.2.2.2.2
    split at h
    ·rename_i hz;rw[if_pos hz];exact k1 _ _ h
    ·rename_i hz;rw[if_neg hz];exact fun b hb=>k1 _ _ (h b hb)
   ·exact h.elim
  ·exact h.elim
 ·rename_i t p x hop
  have hop':=hop
  rw[hop] at hag
  have e1:ev ρ' p=ev ρ p:=hag p (by simp [Op.operands])
  have e2:ev ρ' x=ev ρ x:=hag x (by simp [Op.operands])
  rw[e2]
  unfold aStore at *
  rw[e1]
  split at h
  ·split at h
   ·refine⟨h.1,h.2.1,h.2.2.1,h.2.2.2.1,h.2.2.2.2.1,h.2.2.2.2.2.1,h.2.2.2.2.2.2.1,h.2.2.2.2.2.2.2.1,?_⟩
    have h:=h.2.2.2.2.2.2.2.2
    split at h
    ·split at h
     ·rename_i hz;rw[if_pos hz];exact k2 _ _ _ _ ⟨_,_,hop'⟩ h
     ·rename_i hz;rw[if_neg hz];exact k1 _ _ h
    ·exact k1 _ _ h
   ·exact h.elim
  ·exact h.elim
 ·rename_i t l c hop
  rw[hop] at hag
  have e1:ev ρ' l=ev ρ l:=hag l (by simp [Op.operands])
  have e2:ev ρ' c=ev ρ c:=hag c (by simp [Op.operands])
  rw[e1,e2]
  unfold aMakeSlice at *;split at h
  ·split at h
   ·refine⟨h.1,h.2.1,h.2.2.1,h.2.2.2.1,h.2.2.2.2.1,h.2.2.2.2.2.1,h.2.2.2.2.2.2.1,?_⟩
    have h:=h.2.2.2.2.2.2.2
    split at h
    ·rename_i hz;rw[if_pos hz];exact k1 _ _ h
    ·rename_i hz;rw[if_neg hz];exact fun b hb=>k1 _ _ (h b hb)
   ·exact h.elim
  ·exact h.elim
 ·exact fun b hb=>k1 _ _ (h b hb)
 ·rename_i cl hop
  rw[hop] at hag
  have ha:∀x ∈ cl.args.toList,ev ρ' x=ev ρ x:=fun x hx=>hag x (by simp only[Op.operands,Call.operands,Array.mem_append];exact .inr (by simpa using hx))
  split at h
  ·rename_i s x t t' h0 hx ht'
   have e1:ev ρ' s=ev ρ s:=ha s (by rw[hx];simp)
   have e2:ev ρ' x=ev ρ x:=ha x (by rw[hx];simp)
   rw[e1,e2]
   split at h
   ·rename_i e;rw[if_pos e]
    unfold aAppend at *;split at h
    ·split at h
     ·split at h
      ·refine⟨h.1,h.2.1,h.2.2.1,h.2.2.2.1,h.2.2.2.2.1,?_⟩
       have h:=h.2.2.2.2.2
       split at h
       ·exact⟨h.1,fun hy=>k1 _ _ (h.2.1 hy),fun hy b c hb hc=>k1 _ _ (h.2.2 hy b c hb hc)⟩
       ·split at h
        ·exact⟨h.1,h.2.1,h.2.2.1,h.2.2.2.1,h.2.2.2.2.1,h.2.2.2.2.2.1,fun b c hb hc=>k1 _ _ (h.2.2.2.2.2.2 b c hb hc)⟩
        ·exact h.elim
       ·split at h
        ·exact⟨h.1,h.2.1,h.2.2.1,h.2.2.2.1,h.2.2.2.2.1,h.2.2.2.2.2.1,fun hc=>k1 _ _ (h.2.2.2.2.2.2.1 hc),fun b c hb hc=>k1 _ _ (h.2.2.2.2.2.2.2 b c hb hc)⟩
        ·exact h.elim
       ·exact h.elim
      ·exact h.elim
     ·exact h.elim
    ·exact h.elim
   ·rename_i e;rw[if_neg e]
    unfold aGrow at *;split at h
    ·split at h
     ·exact⟨h.1,h.2.1,h.2.2.1,h.2.2.2.1,h.2.2.2.2.1,h.2.2.2.2.2.1,h.2.2.2.2.2.2.1,fun b c hb hc=>k1 _ _ (h.2.2.2.2.2.2.2 b c hb hc)⟩
     ·exact h.elim
    ·exact h.elim
  ·rename_i s x t t' h0 hx ht'
   have e1:ev ρ' s=ev ρ s:=ha s (by rw[hx];simp)
   have e2:ev ρ' x=ev ρ x:=ha x (by rw[hx];simp)
   rw[e1,e2]
   unfold aCopy at *;split at h
   ·split at h
    ·split at h
     ·refine⟨h.1,h.2.1,h.2.2.1,h.2.2.2.1,?_⟩
      have h:=h.2.2.2.2
      split at h
      ·split at h
       ·exact⟨h.1,h.2.1,h.2.2.1,k1 _ _ h.2.2.2⟩
       ·exact h.elim
      ·exact h.elim
     ·exact h.elim
    ·exact h.elim
   ·exact h.elim
  ·rename_i s t h0 hx ht'
   have e1:ev ρ' s=ev ρ s:=ha s (by rw[hx];simp)
   rw[e1]
   unfold aClear at *;split at h
   ·split at h
    ·refine⟨h.1,h.2.1,h.2.2.1,?_⟩
     have h:=h.2.2.2
     split at h
     ·split at h
      ·exact⟨h.1,h.2.1,h.2.2.1,k1 _ _ h.2.2.2⟩
      ·exact h.elim
     ·exact h.elim
    ·exact h.elim
   ·exact h.elim
  ·rename_i l tys g h0
   have e0:ev ρ' g=ev ρ g:=hag g (by simp [Op.operands,Call.operands,h0])
   have e1:cl.args.toList.map (ev ρ')=cl.args.toList.map (ev ρ):=List.map_congr_left ha
   have e2:(cl.args.toList.map fun x=>(fo (ev ρ' x)).2)=cl.args.toList.map fun x=>(fo (ev ρ x)).2:=List.map_congr_left fun x hx=>by rw[ha x hx]
   rw[e0,e1,e2]
   exact⟨h.1,h.2.1,h.2.2.mono fun r L hh=>k1 _ _ hh⟩
  ·rename_i hn1 hn2 hn3
   exfalso
   simp only[tOp,hop] at ht
   cases ht
 ·rename_i op t x y ty hop;simp [tOp,hop] at ht
 ·rename_i t m k x hop
  rw[hop] at hag
  have e1:ev ρ' m=ev ρ m:=hag m (by simp [Op.operands])
  have e2:ev ρ' k=ev ρ k:=hag k (by simp [Op.operands])
  have e3:ev ρ' x=ev ρ x:=hag x (by simp [Op.operands])
  rw[e1,e2,e3]
  unfold aMapUpdate at *
  split at h
  ·split at h
   ·exact⟨h.1,h.2.1,h.2.2.1,h.2.2.2.1,h.2.2.2.2.1,k1 _ _ h.2.2.2.2.2⟩
   ·exact h.elim
  ·exact h.elim
 ·rename_i t m k x hop;simp [tOp,hop] at ht
 ·rename_i t m k hop
  rw[hop] at hag
  have e1:ev ρ' m=ev ρ m:=hag m (by simp [Op.operands])
  have e2:ev ρ' k=ev ρ k:=hag k (by simp [Op.operands])
  rw[e1,e2]
  unfold aMapEntry at *
  split at h
  ·split at h
   ·exact⟨h.1,h.2.1,h.2.2.1,h.2.2.2.1,fun st=>k1 _ _ (h.2.2.2.2 st)⟩
   ·exact h.elim
  ·exact h.elim
 ·rename_i t m k x hop
  rw[hop] at hag
  have e1:ev ρ' m=ev ρ m:=hag m (by simp [Op.operands])
  have e2:ev ρ' k=ev ρ k:=hag k (by simp [Op.operands])
  have e3:ev ρ' x=ev ρ x:=hag x (by simp [Op.operands])
  rw[e1,e2,e3]
  unfold aEntryStore at *
  split at h
  ·split at h
   ·exact⟨h.1,h.2.1,h.2.2.1,h.2.2.2.1,k1 _ _ h.2.2.2.2⟩
   ·exact h.elim
  ·exact h.elim
 ·rename_i hn1 hn2 hn3 hn4 hn5 hn6 hn7 hn8 hn9 hn10 hn11 hn12
  exfalso
  unfold tOp at ht
  split at ht
  ·rename_i e;exact hn1 _ e
  ·rename_i e;exact hn2 _ _ e
  ·rename_i e;exact hn3 _ _ _ e
  ·rename_i e;exact hn4 _ _ _ e
  ·rename_i e;exact hn5 _ _ _ e
  ·rename_i e;exact hn6 _ e
  ·rename_i e;exact hn9 _ _ _ _ e
  ·rename_i e;exact hn11 _ _ _ e
  ·rename_i e;exact hn12 _ _ _ _ e
  ·rename_i e;exact hn7 _ e
  ·cases ht
theorem aopX_tr (hag:∀x ∈ o.op.operands,ev ρ' x=ev ρ x) (k1:∀x L,K (put ρ o.dst x) L→K' (put ρ' o.dst x) L) (k2:∀s y x L,(∃t x',o.op = .store t (.tmp s) x')→K ((s,y) :: put ρ o.dst x) L→K' ((s,y) :: put ρ' o.dst x) L)
  (h:aopX C o ρ L K):aopX C o ρ' L K':=by
 unfold aopX at *
 rw[aval_congr hag]
 cases hv:aval C.P ρ L o.op with
 | some cx=>rw[hv] at h;exact⟨h.1,k1 _ _ h.2⟩
 | none =>
  rw[hv] at h
  by_cases ht:tOp o=true
  ·have h:if tOp o then aop2 C o ρ L K else False:=h
   rw[if_pos ht] at h
   show if tOp o then aop2 C o ρ' L K' else False
   rw[if_pos ht]
   exact aop2_tr hag ht k1 k2 h
  ·have h:if tOp o then aop2 C o ρ L K else False:=h
   rw[if_neg ht] at h;exact h.elim
end
theorem aLoad_nil {P:Program} {t:TypeId} {p:AV} {r:Prop × AV} (h:aLoad P [] t p=some r) (L:AHeap):aLoad P L t p=some r:=by
 unfold aLoad at *
 split at h
 ·cases h
 ·split at h
  ·exact h
  ·cases h
  ·cases h
theorem aLen_nil {P:Program} {t:TypeId} {x:AV} {r:Prop × AV} (h:aLen P [] t x=some r) (L:AHeap):aLen P L t x=some r:=by
 unfold aLen at *
 split at h
 ·exact h
 ·exact h
 ·exact h
 ·exact h
 ·split at h
  ·exact h
  ·cases h
  ·exact h
  ·cases h
 ·cases h
theorem w1_nil {x:AV} {f g:AV→Option (Prop × AV)} {r:Prop × AV} (h:w1 x f=some r) (hfg:∀y r,f y=some r→g y=some r):w1 x g=some r:=by
 unfold w1 at *
 split at h
 ·rename_i c y hf;rw[hfg _ _ hf];exact h
 ·cases h
theorem w2_nil {x y:AV} {f g:AV→AV→Option (Prop × AV)} {r:Prop × AV} (h:w2 x y f=some r) (hfg:∀y z r,f y z=some r→g y z=some r):w2 x y g=some r:=by
 unfold w2 at *
 split at h
 ·rename_i c z hf;rw[hfg _ _ _ hf];exact h
 ·cases h
theorem mapOf_nil {m:AV} {r:List Value × List AV} (h:mapOf [] m=some r) (L:AHeap):mapOf L m=some r:=by
 unfold mapOf at *
 split at h
 ·cases h
 ·exact h
 ·exact h
 ·cases h
theorem aLookup_nil {P:Program} {t:TypeId} {ok:Bool} {m k:AV} {r:Prop × AV} (h:aLookup P [] t ok m k=some r) (L:AHeap):aLookup P L t ok m k=some r:=by
 unfold aLookup at *
 split at h
 ·split at h
  ·rename_i e1 e2 e3 e4
   rw[e1,e2,e3,mapOf_nil e4 L];exact h
  ·cases h
 ·cases h
theorem srcOf_nil {k:Nat} {x:AV} {r:Prop × List AV} (h:srcOf [] k x=some r) (L:AHeap):srcOf L k x=some r:=by
 unfold srcOf at *
 split at h
 ·exact h
 ·cases h
 ·exact h
 ·cases h
theorem aConvL_nil {P:Program} {s d:TypeId} {x:AV} {r:Prop × AV} (h:aConvL P [] s d x=some r) (L:AHeap):aConvL P L s d x=some r:=by
 unfold aConvL at *
 split at h
 ·split at h
  ·cases hs:srcOf [] 1 x with
   | none=>rw[hs] at h;cases h
   | some p=>rw[hs] at h;rw[srcOf_nil hs L];exact h
  ·cases h
 ·exact h
theorem aval_nil {P:Program} {ρ:Env} {op:Op} {r:Prop × AV} (h:aval P ρ [] op=some r) (L:AHeap):aval P ρ L op=some r:=by
 cases op with
 | load t x=>exact w1_nil h fun y r hy=>aLoad_nil hy L
 | lookup t m k ok=>exact w2_nil h fun y z r hy=>aLookup_nil hy L
 | convert s d x=>exact w1_nil h fun y r hy=>aConvL_nil hy L
 | call c =>
  unfold aval at *
  dsimp only at *
  split at h
  ·exact w1_nil h fun y r hy=>aLen_nil hy L
  ·exact h
  ·exact h
  ·exact h
  ·cases h
 | makeFunc fn first cap=>cases fn <;> exact h
 | slice t x lo hi mx=>cases mx <;> exact h
 | _=>exact h
def YldF (C:Cfg) (ops:Array Oper) (i:Nat) (o:Oper) (x:AV) (ρ:Env):Prop :=
 ∀ρ' L,(∀t ∈ o.looksAt ops,get ρ' t=get ρ t)→GOp C ops i ρ' L fun ρ2 L2=>ρ2=put ρ' o.dst x∧L2=L
def aFz (C:Cfg) (o:Oper) (ρ:Env):Option (Prop × AV) :=
 match o.op with
 | .makeSlice t l c=>match tinfo C.P t,(fo (ev ρ l)).2,(fo (ev ρ c)).2 with
  | some ⟨.slice e,_,_,_⟩,.v (.int _ l'),.v (.int _ c')=>match tinfo C.P e with
   | some ei=>some (isFz C.fz o.dst=true∧((fo (ev ρ l)).1∧(fo (ev ρ c)).1)∧0≤l'∧l'≤c'∧ei.bytes * c'≤281474976710656∧c'≤9223372036854775807∧0<ei.size∧elOk ei.size ei.zero,.sl ei.size (List.replicate l'.toNat ei.zero))
   | none=>none
  | _,_,_=>none
 | .buildSlice t len parts=>match tinfo C.P t with
  | some ⟨.slice e,_,_,_⟩=>match tinfo C.P e with
   | some ei=>some (isFz C.fz o.dst=true∧fos (parts.toList.map fun p=>ev ρ p.2)∧len * ei.size≤16777216∧0<ei.size∧elOk ei.size ei.zero∧partsOk len ei.size (parts.toList.map fun p=>(p.1,(fo (ev ρ p.2)).2)),
     .sl ei.size (setAll (List.replicate len ei.zero) (parts.toList.map fun p=>(p.1,(fo (ev ρ p.2)).2))))
   | none=>none
  | _=>none
 | _=>none
theorem aFz_sound {C:Cfg} {o:Oper} {ρ:Env} {c:Prop} {x:AV} (hd:dstOk C o) (h:aFz C o ρ=some (c,x)) (hc:c) (L:AHeap):AOp C o ρ L fun ρ2 L2=>ρ2=put ρ o.dst x∧L2=L:=by
 unfold aFz at h
 split at h
 ·rename_i t l c' ho
  refine aMakeSlice_sound ho hd ?_
  unfold aMakeSlice
  split at h
  ·rename_i e _ _ _ kl ll kc cc hti hl hc'
   split at h
   ·rename_i ei hei
    simp only[Option.some.injEq,Prod.mk.injEq] at h
    obtain⟨rfl,rfl⟩:=h
    simp only[hti,hl,hc',hei]
    exact⟨hc.2.1,hc.2.2.1,hc.2.2.2.1,hc.2.2.2.2.1,hc.2.2.2.2.2.1,hc.2.2.2.2.2.2.1,hc.2.2.2.2.2.2.2,by rw[if_pos hc.1];simp⟩
   ·cases h
  ·cases h
 ·rename_i t len parts ho
  refine aBuildSlice_sound ho hd ?_
  unfold aBuildSlice
  split at h
  ·rename_i e _ _ _ hti
   split at h
   ·rename_i ei hei
    simp only[Option.some.injEq,Prod.mk.injEq] at h
    obtain⟨rfl,rfl⟩:=h
    simp only[hti,hei]
    obtain⟨h1,h2,h3,h4,h5,h6⟩:=hc
    refine⟨by simpa [List.map_map,Function.comp_def] using h2,h3,h4,h5,by simpa [List.map_map,Function.comp_def] using h6,?_⟩
    rw[if_pos h1]
    simp [List.map_map,Function.comp_def]
   ·cases h
  ·cases h
 ·cases h
theorem aFz_congr {C:Cfg} {o:Oper} {ρ ρ':Env} (hag:∀x ∈ o.op.operands,ev ρ' x=ev ρ x):aFz C o ρ'=aFz C o ρ:=by
 unfold aFz
 split
 ·rename_i t l c hop
  rw[hop] at hag
  rw[hag l (by simp [Op.operands]),hag c (by simp [Op.operands])]
 ·rename_i t len parts hop
  rw[hop] at hag
  have e1:(parts.toList.map fun p=>ev ρ' p.2)=parts.toList.map fun p=>ev ρ p.2:=List.map_congr_left fun p hp=>by
   rw[hag p.2 (by simp only[Op.operands,List.mem_toArray,List.mem_map,Array.mem_map];first|exact⟨p,hp,rfl⟩|exact⟨p,by simpa using hp,rfl⟩)]
  have e2:(parts.toList.map fun p=>(p.1,(fo (ev ρ' p.2)).2))=parts.toList.map fun p=>(p.1,(fo (ev ρ p.2)).2):=List.map_congr_left fun p hp=>by
   rw[hag p.2 (by simp only[Op.operands,List.mem_toArray,List.mem_map,Array.mem_map];first|exact⟨p,hp,rfl⟩|exact⟨p,by simpa using hp,rfl⟩)]
  rw[e1,e2]
 ·rfl
def aqF (C:Cfg) (all:List Oper) (o:Oper) (ρ:Env) (K:Env→Prop):Prop :=
 match o.guard with
 | none=>match aval C.P ρ [] o.op with
  | some (c,x)=>c∧K (put ρ o.dst x)
  | none=>match o.op with
   | .call c=>match c.callee with
    | .value g=>GCall C.P True ((fo (ev ρ g)).1∧fos (c.args.toList.map (ev ρ))) (fo (ev ρ g)).2 (c.args.toList.map fun x=>(fo (ev ρ x)).2) [] (putQ K ρ o.dst)
    | _=>False
   | _=>match aFz C o ρ with
    | some (c,x)=>c∧K (put ρ o.dst x)
    | none=>False
 | some (j,want)=>match gval all ρ j want with
  | some b=>match aval C.P ρ [] o.op with
   | some (c,x)=>(b=want→c)∧K (put ρ o.dst (.cond (b == want) x))
   | none=>match o.op with
    | .call c=>match c.callee with
     | .value g=>GCall C.P (b=want) ((fo (ev ρ g)).1∧fos (c.args.toList.map (ev ρ))) (fo (ev ρ g)).2 (c.args.toList.map fun x=>(fo (ev ρ x)).2) [] (putQC K ρ o.dst (b == want))
     | _=>False
    | _=>match aFz C o ρ with
     | some (c,x)=>(b=want→c)∧K (put ρ o.dst (.cond (b == want) x))
     | none=>b ≠ want∧K (put ρ o.dst (.cond (b == want) .any))
  | none=>False
section
variable {C:Cfg} {ops:Array Oper}
theorem MVal.any {P:Program} {g:AV} {args:List AV} {r:AV} (h:MVal P g args [] fun r' L'=>r'=r∧L'=[]) (L:AHeap):MVal P g args L fun r' L'=>r'=r∧L'=L:=by
 have:=MVal.frame (Lr:=L) h
 exact this.mono fun r' L' ⟨L1,e,e1,e2⟩=>by subst e1 e2;exact⟨rfl,by simpa using e⟩
theorem aqF_yields {i:Nat} {o:Oper} {ρ:Env} {K:Env→Prop} (hi:ops[i]?=some o) (hok:operOk C.N o=true) (h:aqF C ops.toList o ρ K):∃x,YldF C ops i o x ρ∧K (put ρ o.dst x):=by
 have hd:=operOk_dst hok
 have hdef:=operOk_def hok
 unfold aqF at h
 split at h
 ·rename_i hg
  split at h
  ·rename_i c x hv
   exact⟨x,fun ρ' L hag=>AOp.gop hi hg (aval_sound (by rw[aval_congr (agree_ops hag)];exact aval_nil hv L) h.1 hd hdef),h.2⟩
  ·split at h
   ·rename_i cl ho
    split at h
    ·rename_i g h0
     obtain⟨r,h1,h2⟩:=h
     refine⟨r,fun ρ' L hag=>AOp.gop hi hg ?_,h2⟩
     have hag':=agree_ops hag
     rw[ho] at hag'
     obtain⟨e1,e2,e3⟩:=call_congr h0 hag'
     exact call_sound ho h0 hd (by rw[e1,e2,e3];exact⟨(h1 trivial).1.1,(h1 trivial).1.2,(h1 trivial).2.any L⟩)
    ·exact h.elim
   ·split at h
    ·rename_i c x hz
     exact⟨x,fun ρ' L hag=>AOp.gop hi hg (aFz_sound hd (by rw[aFz_congr (agree_ops hag)];exact hz) h.1 L),h.2⟩
    ·exact h.elim
 ·rename_i j want hg
  split at h
  ·rename_i b hv
   split at h
   ·rename_i c x ha
    refine⟨_,fun ρ' L hag=>GOp.of_cond hi hg (by rw[agree_guard hag hg];exact hv) hd fun hb=>aval_sound (by rw[aval_congr (agree_ops hag)];exact aval_nil ha L) (h.1 hb) hd hdef,h.2⟩
   ·split at h
    ·rename_i cl ho
     split at h
     ·rename_i g h0
      obtain⟨r,h1,h2⟩:=h
      refine⟨_,fun ρ' L hag=>GOp.of_cond hi hg (by rw[agree_guard hag hg];exact hv) hd fun hb => ?_,h2⟩
      have hag':=agree_ops hag
      rw[ho] at hag'
      obtain⟨e1,e2,e3⟩:=call_congr h0 hag'
      exact call_sound ho h0 hd (by rw[e1,e2,e3];exact⟨(h1 hb).1.1,(h1 hb).1.2,(h1 hb).2.any L⟩)
     ·exact h.elim
    ·split at h
     ·rename_i c x hz
      exact⟨_,fun ρ' L hag=>GOp.of_cond hi hg (by rw[agree_guard hag hg];exact hv) hd fun hb=>aFz_sound hd (by rw[aFz_congr (agree_ops hag)];exact hz) (h.1 hb) L,h.2⟩
     ·exact⟨_,fun ρ' L hag=>GOp.of_cond hi hg (by rw[agree_guard hag hg];exact hv) hd fun hb=>absurd hb h.1,h.2⟩
  ·exact h.elim
end
def gopX (C:Cfg) (all:List Oper) (o:Oper) (ρ:Env) (L:AHeap) (K:ARes):Prop :=
 match o.guard with
 | none=>aopX C o ρ L K
 | some (j,want)=>match gval all ρ j want with
  | some b=>match aval C.P ρ L o.op with
   | some (c,x)=>(b=want→c)∧K (put ρ o.dst (.cond (b == want) x)) L
   | none=>match o.op with
    | .call c=>match c.callee with
     | .value g=>GCall C.P (b=want) ((fo (ev ρ g)).1∧fos (c.args.toList.map (ev ρ))) (fo (ev ρ g)).2 (c.args.toList.map fun x=>(fo (ev ρ x)).2) L (putC K ρ o.dst (b == want) L)
     | _=>False
    | _=>False
  | none=>False
theorem gopX_some {C:Cfg} {ops:Array Oper} {i:Nat} {o:Oper} {ρ:Env} {L:AHeap} {K:ARes} {j:Nat} {want:Bool} (hi:ops[i]?=some o) (hok:operOk C.N o=true) (hg:o.guard=some (j,want)) (h:gopX C ops.toList o ρ L K) :
  ∃x,K (put ρ o.dst x) L∧∀ρ',(∀t ∈ o.looksAt ops,get ρ' t=get ρ t)→GOp C ops i ρ' L fun ρ2 L2=>ρ2=put ρ' o.dst x∧L2=L:=by
 have hd:=operOk_dst hok
 have hdef:=operOk_def hok
 unfold gopX at h
 rw[hg] at h
 dsimp only at h
 split at h
 ·rename_i b hv
  split at h
  ·rename_i c x ha
   exact⟨_,h.2,fun ρ' hag=>GOp.of_cond hi hg (by rw[agree_guard hag hg];exact hv) hd fun hb=>aval_sound (by rw[aval_congr (agree_ops hag)];exact ha) (h.1 hb) hd hdef⟩
  ·split at h
   ·rename_i cl ho
    split at h
    ·rename_i g h0
     obtain⟨r,h1,h2⟩:=h
     refine⟨_,h2,fun ρ' hag=>GOp.of_cond hi hg (by rw[agree_guard hag hg];exact hv) hd fun hb => ?_⟩
     have hag':=agree_ops hag
     rw[ho] at hag'
     obtain⟨e1,e2,e3⟩:=call_congr h0 hag'
     exact call_sound ho h0 hd (by rw[e1,e2,e3];exact⟨(h1 hb).1.1,(h1 hb).1.2,(h1 hb).2⟩)
    ·exact h.elim
   ·exact h.elim
 ·exact h.elim
def dstOf (ops:Array Oper) (i:Nat):Option Nat:=(ops[i]?).bind (·.dst)
def predsOf (o:Oper):List Nat:=(o.after.toList.filter (Region.binds .any)).map (·.on)
def touchOf (o:Oper):List Nat:=o.dst.toList ++ (match o.op with | .store _ (.tmp s) _=>[s]|_=>[])
def ascend:List Nat→Bool
 | []=>true
 | i :: r=>r.all (fun j=>decide (i<j)) && ascend r
def mixOk (ops:Array Oper) (qs:List Nat):Bool :=
 ascend qs && qs.all (fun q=>decide (q<ops.size)) &&
 (List.range ops.size).all fun i=>match ops[i]? with
  | some o=>(predsOf o).all (fun p=>decide (p<i)) &&
    qs.all (fun q=>match dstOf ops q with
     | some d=>(!(o.looksAt ops).contains d || (predsOf o).contains q) && (i == q || !(o.dst == some d))
     | none=>true) &&
    (qs.contains i || qs.all fun q=>match ops[q]? with
     | some oq=>(touchOf o).all fun s=>(!(oq.looksAt ops).contains s || (predsOf o).contains q) && !(oq.dst == some s)
     | none=>true)
  | none=>true
def OT.apX (C:Cfg) (all:List Oper) (K:ARes):OT→Env→AHeap→Prop
 | .done,_,_=>True
 | .step i t r,ρ,L=>(match all[i]? with|some o=>gopX C all o ρ L (fun ρ L=>if t.isDone then K ρ L else OT.apX C all K t ρ L)|none=>False)∧OT.apX C all K r ρ L
def OT.nxX (C:Cfg) (all:List Oper) (K:ARes) (t:OT) (ρ:Env) (L:AHeap):Prop:=if t.isDone then K ρ L else OT.apX C all K t ρ L
theorem OT.apX_done (C:Cfg) (all:List Oper) (K:ARes) (ρ:Env) (L:AHeap):OT.apX C all K .done ρ L=True:=rfl
theorem OT.apX_step (C:Cfg) (all:List Oper) (K:ARes) (i:Nat) (t r:OT) (ρ:Env) (L:AHeap) :
  OT.apX C all K (.step i t r) ρ L=((match all[i]? with|some o=>gopX C all o ρ L (OT.nxX C all K t)|none=>False)∧OT.apX C all K r ρ L):=rfl
theorem OT.nxX_done (C:Cfg) (all:List Oper) (K:ARes) (ρ:Env) (L:AHeap):OT.nxX C all K .done ρ L=K ρ L:=rfl
theorem OT.nxX_step (C:Cfg) (all:List Oper) (K:ARes) (i:Nat) (t r:OT) (ρ:Env) (L:AHeap):OT.nxX C all K (.step i t r) ρ L=OT.apX C all K (.step i t r) ρ L:=rfl
def aqRun (C:Cfg) (all:List Oper):List Nat→(Env→Prop)→Env→Prop
 | [],K,ρ=>K ρ
 | i :: r,K,ρ=>match all[i]? with
  | some o=>aqF C all o ρ (aqRun C all r K)
  | none=>False
def fullL (n:Nat) (qs:List Nat):Array Bool:=qs.foldl (fun l q=>l.setIfInBounds q true) (Array.replicate n false)
section
variable {C:Cfg} {ops:Array Oper}
def QFact (C:Cfg) (ops:Array Oper) (ρ:Env) (q:Nat):Prop:=∃o x,ops[q]?=some o∧YldF C ops q o x ρ∧∀d,o.dst=some d→get ρ d=x
theorem YldF.of_agree {i:Nat} {o:Oper} {x:AV} {ρ ρ':Env} (h:YldF C ops i o x ρ) (he:∀t ∈ o.looksAt ops,get ρ' t=get ρ t):YldF C ops i o x ρ' :=
 fun ρ2 L hag=>h ρ2 L fun t ht=>(hag t ht).trans (he t ht)
theorem ascend_cons {i:Nat} {r:List Nat} (h:ascend (i :: r)=true):(∀j ∈ r,i<j)∧ascend r=true:=by
 simp only[ascend,Bool.and_eq_true,List.all_eq_true,decide_eq_true_eq] at h;exact h
theorem mix_at {qs:List Nat} (h:mixOk ops qs=true) {i:Nat} {o:Oper} (hi:ops[i]?=some o) :
  (∀p ∈ predsOf o,p<i)∧(∀q ∈ qs,∀d,dstOf ops q=some d→(d ∈ o.looksAt ops→q ∈ predsOf o)∧(i ≠ q→o.dst ≠ some d)) ∧
  (i ∉ qs→∀q ∈ qs,∀oq,ops[q]?=some oq→∀s ∈ touchOf o,(s ∈ oq.looksAt ops→q ∈ predsOf o)∧oq.dst ≠ some s):=by
 unfold mixOk at h
 simp only[Bool.and_eq_true,List.all_eq_true] at h
 have hlt:i<ops.size:=(Array.getElem?_eq_some_iff.1 hi).1
 have h3:=h.2 i (List.mem_range.2 hlt)
 rw[hi] at h3
 simp only[Bool.and_eq_true,List.all_eq_true,decide_eq_true_eq] at h3
 refine⟨h3.1.1,fun q hq d hd => ?_,fun hiq => ?_⟩
 ·have:=h3.1.2 q hq
  rw[hd] at this
  simp only[Bool.and_eq_true,Bool.or_eq_true,Bool.not_eq_true',List.contains_eq_mem,decide_eq_true_eq,decide_eq_false_iff_not,beq_iff_eq,beq_eq_false_iff_ne,ne_eq] at this
  exact⟨fun hm=>this.1.resolve_left (fun hn=>hn hm),fun hne=>this.2.resolve_left hne⟩
 ·have h4:=h3.2
  simp only[Bool.or_eq_true,List.contains_eq_mem,decide_eq_true_eq,List.all_eq_true] at h4
  have h4:=h4.resolve_left hiq
  intro q hq oq hoq s hs
  have:=h4 q hq
  rw[hoq] at this
  simp only[List.all_eq_true,Bool.and_eq_true,Bool.or_eq_true,Bool.not_eq_true',List.contains_eq_mem,decide_eq_true_eq,decide_eq_false_iff_not,beq_eq_false_iff_ne,ne_eq] at this
  exact⟨fun hm=>(this s hs).1.resolve_left (fun hn=>hn hm),(this s hs).2⟩
theorem mix_asc {qs:List Nat} (h:mixOk ops qs=true):ascend qs=true∧∀q ∈ qs,q<ops.size:=by
 unfold mixOk at h
 simp only[Bool.and_eq_true,List.all_eq_true,decide_eq_true_eq] at h
 exact h.1
theorem aqRun_facts {qs0:List Nat} (hm:mixOk ops qs0=true) (hok:ops.toList.all (operOk C.N)=true):∀(qs:List Nat) (ρ:Env) (K:Env→Prop),(∀q ∈ qs,q ∈ qs0)→ascend qs=true→aqRun C ops.toList qs K ρ →
  ∃ρq,K ρq∧(∀q ∈ qs,QFact C ops ρq q)∧∀s,(∀q ∈ qs,dstOf ops q ≠ some s)→get ρq s=get ρ s
 | [],ρ,K,_,_,h=>⟨ρ,h,fun q hq=>(by cases hq),fun _ _=>rfl⟩
 | i :: r,ρ,K,hsub,hasc,h=>by
  obtain⟨hlt,hasc'⟩:=ascend_cons hasc
  simp only[aqRun] at h
  cases ho:ops.toList[i]? with
  | none=>rw[ho] at h;exact h.elim
  | some o =>
   rw[ho] at h
   have ho':ops[i]?=some o:=by simpa using ho
   obtain⟨x,hy,hK⟩:=aqF_yields ho' (List.all_eq_true.1 hok o (List.mem_of_getElem? ho)) h
   obtain⟨ρq,h1,h2,h3⟩:=aqRun_facts hm hok r _ K (fun q hq=>hsub q (List.mem_cons_of_mem _ hq)) hasc' hK
   obtain⟨p1,p2,_⟩:=mix_at hm ho'
   have hself:∀d,o.dst=some d→d ∉ o.looksAt ops:=fun d hd hm'=>by
    have:=(p2 i (hsub i List.mem_cons_self) d (by simp [dstOf,ho',hd])).1 hm'
    exact absurd (p1 i this) (Nat.lt_irrefl i)
   refine⟨ρq,h1,fun q hq => ?_,fun s hs => ?_⟩
   ·rcases List.mem_cons.1 hq with rfl|hq
    ·refine⟨o,x,ho',hy.of_agree fun t ht => ?_,fun d hd => ?_⟩
     ·rw[h3 t fun q' hq' he => ?_,get_put,if_neg fun he=>hself t he ht]
      have:=(p2 q' (hsub q' (List.mem_cons_of_mem _ hq')) t he).1 ht
      have:=p1 q' this;have:=hlt q' hq';omega
     ·rw[h3 d fun q' hq' he => ?_,get_put,if_pos hd]
      exact(p2 q' (hsub q' (List.mem_cons_of_mem _ hq')) d he).2 (by have:=hlt q' hq';omega) hd
    ·exact h2 q hq
   ·rw[h3 s fun q hq=>hs q (List.mem_cons_of_mem _ hq),get_put,if_neg]
    have:=hs i List.mem_cons_self
    simpa [dstOf,ho'] using this
def mask (ops:Array Oper) (qs:List Nat) (listed:Array Bool) (ρ:Env):Env:=((qs.filter fun q=>listed.getD q true == false).filterMap (dstOf ops)).map (fun d=>(d,AV.any)) ++ ρ
theorem get_anys (l:List Nat) (ρ:Env) (s:Nat):get (l.map (fun d=>(d,AV.any)) ++ ρ) s=if s ∈ l then .any else get ρ s:=by
 induction l with
 | nil=>simp
 | cons d l ih =>
  simp only[List.map_cons,List.cons_append,get,List.mem_cons]
  by_cases h:s=d
  ·simp [h]
  ·simp [h,ih]
theorem mask_or (qs:List Nat) (listed:Array Bool) (ρ:Env) (s:Nat):(get (mask ops qs listed ρ) s = .any∧∃q ∈ qs,listed.getD q true=false∧dstOf ops q=some s)∨(get (mask ops qs listed ρ) s=get ρ s∧∀q ∈ qs,listed.getD q true=false→dstOf ops q ≠ some s):=by
 unfold mask
 rw[get_anys]
 split
 ·rename_i h
  refine .inl ⟨rfl,?_⟩
  obtain⟨q,hq,hd⟩:=List.mem_filterMap.1 h
  obtain⟨h1,h2⟩:=List.mem_filter.1 hq
  exact⟨q,h1,by simpa using h2,hd⟩
 ·rename_i h
  refine .inr ⟨rfl,fun q hq hl hd=>h ?_⟩
  exact List.mem_filterMap.2 ⟨q,List.mem_filter.2 ⟨hq,by simpa using hl⟩,hd⟩
theorem mask_out {qs:List Nat} {listed:Array Bool} {ρ:Env} {s:Nat} (h:∀q ∈ qs,listed.getD q true=false→dstOf ops q ≠ some s):get (mask ops qs listed ρ) s=get ρ s:=by
 rcases mask_or (ops:=ops) qs listed ρ s with ⟨_,q,h1,h2,h3⟩|h'
 ·exact absurd h3 (h q h1 h2)
 ·exact h'.1
theorem OT.isDone_iff {T:OT} (h:T.alts=[]):T = .done:=by cases T with|done=>rfl|step i t r=>cases h
theorem getD_tf {listed:Array Bool} {i:Nat} (h:listed.getD i false=true):listed.getD i true=true:=by
 by_cases hi:i<listed.size
 ·simpa [Array.getD,hi] using h
 ·simp [Array.getD,hi] at h
theorem getD_ft {listed:Array Bool} {i:Nat} (hi:i<listed.size) (h:listed.getD i true=true):listed.getD i false=true:=by simpa [Array.getD,hi] using h
theorem mix_sound {qs:List Nat} (hm:mixOk ops qs=true) (hok:ops.toList.all (operOk C.N)=true) {K:ARes} {n:Nat} {w0:World} {M A0:Foot} {Q:Exit→Act→World→Prop} (hQ:∀a w,post w0 M A0 C.N K a w→Q .normal a w) :
  ∀(f:Nat) (T:OT) (g:Nat) (listed listedF:Array Bool) (ρT:Env) (L:AHeap) (a:Act) (w:World),
   T.alts=Region.ready .any ops listedF→T.ok ops g listedF=true→listed.size=ops.size→listedF.size=ops.size →
   (∀i,i ∉ qs→listed.getD i true=listedF.getD i true)→(∀q ∈ qs,listedF.getD q true=true) →
   (∀l:List Nat,l.Nodup→(∀i ∈ l,listed.getD i true=false)→l.length≤f) →
   (∀q ∈ qs,listed.getD q true=false→QFact C ops ρT q)→OT.nxX C ops.toList K T ρT L→St w0 M A0 C.N (mask ops qs listed ρT) L a w →
   wpAnyIn (Fw C.r) n C.P .any ops Q f listed a w:=by
 -- where nothing is ready,all is done
 have fin:∀(T:OT) (listed listedF:Array Bool) (ρT:Env) (L:AHeap) (a:Act) (w:World),T.alts=Region.ready .any ops listedF→listed.size=ops.size→(∀i,i ∉ qs→listed.getD i true=listedF.getD i true)→(∀q ∈ qs,listedF.getD q true=true) →
   OT.nxX C ops.toList K T ρT L→St w0 M A0 C.N (mask ops qs listed ρT) L a w→Region.ready .any ops listed=[]→Q .normal a w:=by
  intro T listed listedF ρT L a w hT hsz hL hF hK hs hr
  have all:∀i,listed.getD i true=true:=by
   intro i
   induction i using Nat.strongRecOn with
   | _ i ih =>
    cases hi:listed.getD i true with
    | true=>rfl
    | false =>
     exfalso
     have hlt:i<ops.size:=by
      rw[← hsz]
      by_cases h:i<listed.size
      ·exact h
      ·simp [Array.getD,h] at hi
     have ho:ops[i]?=some ops[i]:=Array.getElem?_eq_getElem hlt
     have:i ∈ Region.ready .any ops listed:=mem_ready.2 ⟨hi,_,ho,fun e he hb=>by
      have hp:=(mix_at hm ho).1 e.on (List.mem_map.2 ⟨e,List.mem_filter.2 ⟨by simpa using he,hb⟩,rfl⟩)
      exact getD_ft (by omega) (ih _ hp)⟩
     rw[hr] at this;cases this
  have hTd:T = .done:=OT.isDone_iff (by
   rw[hT]
   cases hh:Region.ready .any ops listedF with
   | nil=>rfl
   | cons j r =>
    have hj:j ∈ Region.ready .any ops listedF:=by rw[hh];exact List.mem_cons_self
    have h1:=(mem_ready.1 hj).1
    have hq:j ∉ qs:=fun hq=>by rw[hF j hq] at h1;cases h1
    rw[← hL j hq,all j] at h1;cases h1)
  subst hTd
  refine hQ a w ⟨ρT,L,hK,st_forget hs fun i => .inr ?_⟩
  rw[mask_out fun q _ hl=>by rw[all q] at hl;cases hl]
 intro f
 induction f with
 | zero =>
  intro T g listed listedF ρT L a w hT hTo hsz hszF hL hF hcnt hfact hK hs
  have hr:Region.ready .any ops listed=[]:=by
   cases hh:Region.ready .any ops listed with
   | nil=>rfl
   | cons j r =>
    have hj:j ∈ Region.ready .any ops listed:=by rw[hh];exact List.mem_cons_self
    have:=hcnt [j] (by simp) (fun i hi=>by simp at hi;subst hi;exact(mem_ready.1 hj).1)
    simp at this
  exact⟨hr,fin T listed listedF ρT L a w hT hsz hL hF hK hs hr⟩
 | succ f ih =>
  intro T g listed listedF ρT L a w hT hTo hsz hszF hL hF hcnt hfact hK hs
  refine⟨fin T listed listedF ρT L a w hT hsz hL hF hK hs,fun i hi => ?_⟩
  obtain⟨hun,o,ho,hpre⟩:=mem_ready.1 hi
  have hlt:i<ops.size:=(Array.getElem?_eq_some_iff.1 ho).1
  obtain⟨m1,m2,m3⟩:=mix_at hm ho
  have hlooks:∀t ∈ o.looksAt ops,get (mask ops qs listed ρT) t=get ρT t:=fun t ht=>mask_out fun q hq hl hd=>by
   have hp:=(m2 q hq t hd).1 ht
   obtain⟨e,he,rfl⟩:=List.mem_map.1 hp
   obtain⟨he1,he2⟩:=List.mem_filter.1 he
   have:=getD_tf (hpre e (by simpa using he1) he2)
   rw[hl] at this;cases this
  have hcnt':∀l:List Nat,l.Nodup→(∀j ∈ l,(listed.setIfInBounds i true).getD j true=false)→l.length≤f:=fun l hn hl=>by
   have hil:i ∉ l:=fun h=>by
    have:=hl i h
    simp [Array.getD,show i<listed.size by omega] at this
   have:=hcnt (i :: l) (List.nodup_cons.2 ⟨hil,hn⟩) (fun j hj=>by
    rcases List.mem_cons.1 hj with rfl|hj
    ·exact hun
    ·have:=hl j hj
     have hne:i ≠ j:=fun e=>hil (e ▸ hj)
     rwa [getD_set_ne true hne] at this)
   simp at this;omega
  have hset:∀j,j ≠ i→(listed.setIfInBounds i true).getD j true=listed.getD j true:=fun j hj=>getD_set_ne true (Ne.symm hj)
  have hseti:(listed.setIfInBounds i true).getD i true=true:=by simp [Array.getD,show i<listed.size by omega]
  by_cases hq:i ∈ qs
  ·obtain⟨o',x,ho',hy,hgx⟩:=hfact i hq hun
   rw[ho] at ho';cases ho'
   refine wpOpIn_mono ?_ (hy _ L hlooks n w0 M A0 a w Q hs)
   rintro a' w' ⟨ρ2,L2,⟨rfl,rfl⟩,hs2⟩
   refine ih T g _ listedF ρT L2 a' w' hT hTo (by simpa using hsz) hszF (fun j hj=>by rw[hset j (fun e=>hj (e ▸ hq))];exact hL j hj) hF hcnt' (fun q hq' hl=>hfact q hq' (by
    by_cases e:q=i
    ·subst e;exact hun
    ·rwa [hset q e] at hl)) hK (st_forget hs2 fun s => ?_)
   rcases mask_or (ops:=ops) qs (listed.setIfInBounds i true) ρT s with ⟨h1,_⟩|⟨h1,h2⟩
   ·exact .inl h1
   ·refine .inr ?_
    rw[h1,get_put]
    by_cases hd:o.dst=some s
    ·rw[if_pos hd];exact hgx s hd
    ·rw[if_neg hd,mask_out fun q hq' hl hds => ?_]
     by_cases e:q=i
     ·subst e;exact hd (by simpa [dstOf,ho] using hds)
     ·exact h2 q hq' (by rw[hset q e];exact hl) hds
  ·have htouch:=m3 hq
   have hiF:i ∈ Region.ready .any ops listedF:=mem_ready.2 ⟨by rw[← hL i hq];exact hun,o,ho,fun e he hb=>by
    have h1:=getD_tf (hpre e he hb)
    have hlt':e.on<listedF.size:=by
     have:=m1 e.on (List.mem_map.2 ⟨e,List.mem_filter.2 ⟨by simpa using he,hb⟩,rfl⟩);omega
    by_cases hqe:e.on ∈ qs
    ·exact getD_ft hlt' (hF _ hqe)
    ·exact getD_ft hlt' (by rw[← hL _ hqe];exact h1)⟩
   rw[← hT] at hiF
   have key:∀(T:OT) (g:Nat),T.ok ops g listedF=true→OT.apX C ops.toList K T ρT L→i ∈ T.alts→∃t g',t.alts=Region.ready .any ops (listedF.setIfInBounds i true)∧t.ok ops g' (listedF.setIfInBounds i true)=true∧gopX C ops.toList o ρT L (OT.nxX C ops.toList K t):=by
    intro T
    induction T with
    | done=>intro g _ _ h;cases h
    | step j t r iht ihr =>
     intro g h1 h2 h3
     cases g with
     | zero=>cases h1
     | succ g =>
      simp only[OT.ok,Bool.and_eq_true,beq_iff_eq] at h1
      rw[OT.apX_step] at h2
      rcases List.mem_cons.1 h3 with rfl|h3
      ·refine⟨t,g,h1.1.1,h1.1.2,?_⟩
       have h0:ops.toList[i]?=some o:=by simpa using ho
       rw[h0] at h2;exact h2.1
      ·exact ihr (g+1) h1.2 h2.2 h3
   have hap:OT.apX C ops.toList K T ρT L:=by
    cases T with
    | done=>trivial
    | step j t r=>exact hK
   obtain⟨t,g',ht1,ht2,ht3⟩:=key T g hTo hap hiF
   have hag:=agree_ops (ρ:=ρT) (ρ':=mask ops qs listed ρT) hlooks
   let K':ARes:=fun ρ2 L2=>∃ρT2,(∀s,s ∉ touchOf o→get ρT2 s=get ρT s)∧(∀s,get (mask ops qs (listed.setIfInBounds i true) ρT2) s = .any∨get (mask ops qs (listed.setIfInBounds i true) ρT2) s=get ρ2 s)∧OT.nxX C ops.toList K t ρT2 L2
   have hmq:∀(ρ1 ρ2:Env),(∀s,s ∈ touchOf o→get ρ1 s=get ρ2 s)→(∀s,s ∉ touchOf o→get ρ2 s=get (mask ops qs listed ρT) s∧get ρ1 s=get ρT s)→∀s,get (mask ops qs (listed.setIfInBounds i true) ρ1) s = .any∨get (mask ops qs (listed.setIfInBounds i true) ρ1) s=get ρ2 s:=fun ρ1 ρ2 e1 e2 s=>by
    rcases mask_or (ops:=ops) qs (listed.setIfInBounds i true) ρ1 s with ⟨h1,_⟩|⟨h1,h2⟩
    ·exact .inl h1
    ·refine .inr ?_
     rw[h1]
     by_cases hst:s ∈ touchOf o
     ·exact e1 s hst
     ·obtain⟨e3,e4⟩:=e2 s hst
      rw[e3,e4]
      exact(mask_out fun q hq' hl hds=>h2 q hq' (by rw[hset q (fun e=>hq (e ▸ hq'))];exact hl) hds).symm
   have k1:∀x L',OT.nxX C ops.toList K t (put ρT o.dst x) L'→K' (put (mask ops qs listed ρT) o.dst x) L':=fun x L' hk=>⟨_,fun s hs'=>by
     rw[get_put,if_neg];intro e;exact hs' (by simp [touchOf,e]),hmq _ _ (fun s hs'=>by
      rw[get_put,get_put]
      by_cases e:o.dst=some s
      ·rw[if_pos e,if_pos e]
      ·rw[if_neg e,if_neg e]
       exact(mask_out fun q hq' hl hds=>(htouch q hq' _ (Array.getElem?_eq_getElem ((mix_asc hm).2 q hq')) s hs').2 (by simpa [dstOf,Array.getElem?_eq_getElem ((mix_asc hm).2 q hq')] using hds)).symm) (fun s hs'=>by
      have e:o.dst ≠ some s:=fun e=>hs' (by simp [touchOf,e])
      rw[get_put,get_put,if_neg e,if_neg e];exact⟨rfl,rfl⟩),hk⟩
   have hoo:=List.all_eq_true.1 hok o (List.mem_of_getElem? (show ops.toList[i]?=some o by simpa using ho))
   have hgo:GOp C ops i (mask ops qs listed ρT) L K':=by
    cases hg:o.guard with
    | some jw =>
     obtain⟨x,hk,hgg⟩:=gopX_some ho hoo hg ht3
     refine(hgg _ hlooks).conv ?_
     rintro ρ' L' w0 M A0 a w ⟨rfl,rfl⟩ hs
     exact⟨_,_,k1 x _ hk,hs⟩
    | none =>
     have ht3:aopX C o ρT L (OT.nxX C ops.toList K t):=by unfold gopX at ht3;rw[hg] at ht3;exact ht3
     have htr:aopX C o (mask ops qs listed ρT) L K':=aopX_tr hag k1
      (fun s' y x L' hst hk=>⟨_,fun s hs'=>by
       obtain⟨t',x',hop⟩:=hst
       have h1:s ≠ s':=fun e=>hs' (by simp [touchOf,hop,e])
       simp only[get,if_neg h1]
       rw[get_put,if_neg];intro e;exact hs' (by simp [touchOf,e]),hmq _ _ (fun s hs'=>by
        simp only[get]
        by_cases h1:s=s'
        ·rw[if_pos h1,if_pos h1]
        ·rw[if_neg h1,if_neg h1,get_put,get_put]
         by_cases e:o.dst=some s
         ·rw[if_pos e,if_pos e]
         ·rw[if_neg e,if_neg e]
          exact(mask_out fun q hq' hl hds=>(htouch q hq' _ (Array.getElem?_eq_getElem ((mix_asc hm).2 q hq')) s hs').2 (by simpa [dstOf,Array.getElem?_eq_getElem ((mix_asc hm).2 q hq')] using hds)).symm) (fun s hs'=>by
        obtain⟨t',x',hop⟩:=hst
        have h1:s ≠ s':=fun e=>hs' (by simp [touchOf,hop,e])
        have e:o.dst ≠ some s:=fun e=>hs' (by simp [touchOf,e])
        simp only[get,if_neg h1]
        rw[get_put,get_put,if_neg e,if_neg e];exact⟨rfl,rfl⟩),hk⟩) ht3
     exact AOp.gop ho hg (aop_sound (operOk_dst hoo) (operOk_def hoo) (aopX_aop htr))
   refine wpOpIn_mono ?_ (hgo n w0 M A0 a w Q hs)
   rintro a' w' ⟨ρ2,L2,⟨ρT2,h1,h2,h3⟩,hs2⟩
   refine ih t g' _ (listedF.setIfInBounds i true) ρT2 L2 a' w' ht1 ht2 (by simpa using hsz) (by simpa using hszF) (fun j hj => ?_) (fun q hq' => ?_) hcnt' (fun q hq' hl => ?_) h3 (st_forget hs2 h2)
   ·by_cases e:j=i
    ·subst e;rw[hseti];simp [Array.getD,show j<listedF.size by omega]
    ·rw[hset j e,getD_set_ne true (Ne.symm e)];exact hL j hj
   ·have e:q ≠ i:=fun e=>hq (e ▸ hq')
    rw[getD_set_ne true (Ne.symm e)];exact hF q hq'
   ·have e:q ≠ i:=fun e=>hq (e ▸ hq')
    rw[hset q e] at hl
    obtain⟨oq,x,hoq,hy,hgx⟩:=hfact q hq' hl
    refine⟨oq,x,hoq,hy.of_agree fun s hs'=>h1 s fun hst => ?_,fun d hd => ?_⟩
    ·have hp:=(htouch q hq' oq hoq s hst).1 hs'
     obtain⟨e',he',rfl⟩:=List.mem_map.1 hp
     obtain⟨he1,he2⟩:=List.mem_filter.1 he'
     have:=getD_tf (hpre e' (by simpa using he1) he2)
     rw[hl] at this;cases this
    ·rw[h1 d fun hst=>(htouch q hq' oq hoq d hst).2 hd];exact hgx d hd
end
theorem fullL_spec (qs:List Nat) (n:Nat) (h:∀q ∈ qs,q<n):(fullL n qs).size=n∧(∀i,i ∉ qs→(fullL n qs).getD i true=(Array.replicate n false).getD i true)∧∀q ∈ qs,(fullL n qs).getD q true=true:=by
 have key:∀(qs:List Nat) (l:Array Bool),l.size=n→(∀q ∈ qs,q<n) →
   (qs.foldl (fun l q=>l.setIfInBounds q true) l).size=n∧(∀i,i ∉ qs→(qs.foldl (fun l q=>l.setIfInBounds q true) l).getD i true=l.getD i true)∧∀i,(i ∈ qs∨l.getD i true=true)→(qs.foldl (fun l q=>l.setIfInBounds q true) l).getD i true=true:=by
  intro qs
  induction qs with
  | nil=>intro l hl _;exact⟨hl,fun _ _=>rfl,fun i hi=>hi.resolve_left (by simp)⟩
  | cons q qs ih =>
   intro l hl hq
   obtain⟨h1,h2,h3⟩:=ih (l.setIfInBounds q true) (by simpa using hl) (fun q' hq'=>hq q' (List.mem_cons_of_mem _ hq'))
   refine⟨h1,fun i hi => ?_,fun i hi => ?_⟩
   ·simp only[List.mem_cons,not_or] at hi
    rw[List.foldl_cons,h2 i hi.2,getD_set_ne true (Ne.symm hi.1)]
   ·rw[List.foldl_cons]
    apply h3
    by_cases e:i=q
    ·subst e;exact .inr (by have:=hq i List.mem_cons_self;simp [Array.getD,show i<l.size by omega])
    ·rcases hi with hi|hi
     ·exact .inl ((List.mem_cons.1 hi).resolve_left e)
     ·exact .inr (by rw[getD_set_ne true (Ne.symm e)];exact hi)
 obtain⟨h1,h2,h3⟩:=key qs (Array.replicate n false) (by simp) h
 exact⟨h1,h2,fun q hq=>h3 q (.inl hq)⟩
def mixAll (ops:Array Oper) (qs:List Nat) (T:OT):Bool:=mixOk ops qs && (T.alts == Region.ready .any ops (fullL ops.size qs)) && T.ok ops ops.size (fullL ops.size qs)
def mixK (C:Cfg) (all:List Oper) (K:ARes) (T:OT) (L:AHeap) (ρ:Env):Prop:=OT.nxX C all K T ρ L
theorem AWp.mix {C:Cfg} {id:Nat} {ops:Array Oper} {Q:AQ} {ρ:Env} {L:AHeap} (hmx:C.P.follows .mixedOrders=true) (qs:List Nat) (T:OT) (hT:mixAll ops qs T=true)
  (h:aqRun C ops.toList qs (mixK C ops.toList (Q .normal) T L) ρ):AWp C (.region id ops true) Q ρ L:=fun hok n w0 M A0 a w hs=>by
 simp only[mixAll,Bool.and_eq_true,beq_iff_eq] at hT
 obtain⟨⟨hm,h1⟩,h2⟩:=hT
 have hasc:=mix_asc hm
 obtain⟨f1,f2,f3⟩:=fullL_spec qs ops.size hasc.2
 obtain⟨ρq,hK,hF,hother⟩:=aqRun_facts hm hok qs ρ _ (fun _ h=>h) hasc.1 h
 refine wpIn_region_any hmx ?_
 obtain⟨A,ds,hs'⟩:=st_iff.1 hs
 refine mix_sound hm hok (K:=Q .normal) (fun a w ⟨ρ',L',h1,h2⟩=>⟨ρ',L',h1,h2⟩) ops.size T ops.size _ (fullL ops.size qs) ρq L a _ h1 h2 (by simp) f1 (fun i hi=>(f2 i hi).symm) f3 ?_ (fun q hq _=>hF q hq) hK
  (st_forget (st_iff.2 ⟨A,ds,hs'.drew⟩) fun s => ?_)
 ·intro l hn hl
  have:=List.Nodup.length_le_of_subset hn (l₂:=List.range ops.size) (fun i hi=>by
   have:=hl i hi
   rw[List.mem_range]
   by_cases h:i<ops.size
   ·exact h
   ·simp [Array.getD,h] at this)
  simpa using this
 ·rcases mask_or (ops:=ops) qs (Array.replicate ops.size false) ρq s with ⟨h1,_⟩|⟨h1,h2⟩
  ·exact .inl h1
  ·refine .inr ?_
   rw[h1]
   exact hother s fun q hq hd=>h2 q hq (by simp [Array.getD,hasc.2 q hq]) hd
theorem aqRun_nil (C:Cfg) (all:List Oper) (K:Env→Prop) (ρ:Env):aqRun C all [] K ρ=K ρ:=rfl
theorem aqRun_cons (C:Cfg) (all:List Oper) (i:Nat) (r:List Nat) (K:Env→Prop) (ρ:Env):aqRun C all (i :: r) K ρ=(match all[i]? with|some o=>aqF C all o ρ (aqRun C all r K)|none=>False):=rfl
attribute [go_sem] aqRun_nil aqRun_cons aqF aFz mixK OT.apX_done OT.apX_step OT.nxX_done OT.nxX_step aopX tOp gopX
end Go.AL
end
