/- Texts of this claim's proof: WPc, WDl, WPb, WPt, WPe, WVe, WPg, WPh, WRf9, WPj. No condition. -/
import Derived.Test.YtbegiibjiidkmaaGreatDoorM7
import Derived.Test.YtbegiibjiidkmaaGreatDoorM4
import Derived.Test.YtbegiibjiidkmaaGreatDoorM6
section
namespace Go.AL
open Go Go.RowKit Proofs.Tryz
set_option maxRecDepth 4000
def nmB (s:ByteArray)(v:ByteArray × Int):Bool:=decide (v.1=s)
def varIx (vs:List (ByteArray × Int))(s:ByteArray):Int:=match vs.findIdx? (nmB s) with|some i=>i|none=>-1
def isPB (n:Nat)(p:Int):Bool:=decide (0<=p) && decide (p<n)
def knownB (ps:List Pr)(p:Int)(s:ByteArray):Bool:=match ps[p.toNat]? with|some x=>x.vars.any (nmB s)|none=>false
def resB (ps:List Pr):Pd->Bool
 | .mk k _ p q s _=>if k=2 then isPB ps.length p && decide (q=0) && knownB ps p s else if k=3 then isPB ps.length p && decide (q=0) && decide (s=ByteArray.empty) else
  if k=4 then isPB ps.length p && isPB ps.length q && !decide (p=q) && decide (s=ByteArray.empty) else true
theorem predtype_isProc (ps:List Pr)(p:Int):PC prog 186 [aTr ps,ai p] (ab (isPB ps.length p)):=by
 generalize hb:isPB ps.length p=b
 refine PE 14 [.tmp 4] [2] func186 ?_;simp only[go_sem]
 refine Wk ?_
 refine Rq ?_
 rw[<- hb];rfl
theorem predtype_known1 (v:ByteArray × Int)(s:ByteArray):PC prog 223 [aVar v,.rp 1 [astr s] 0 0] (ab (nmB s v)):=by
 generalize hb:nmB s v=b
 refine PE 8 [.tmp 3] [2] func223 ?_;simp only[go_sem]
 refine Wk ?_
 refine Rq ?_
 rw[<- hb];rfl
theorem isPB_nat {n:Nat}{p:Int}(h:isPB n p=true):∃i:Nat,p=i/\i<n:=by
 unfold isPB at h;simp only[Bool.and_eq_true,decide_eq_true_eq] at h
 exact⟨p.toNat,by omega,by omega⟩
theorem predtype_known (ps:List Pr)(hs:Sm ps)(p:Int)(hpb:isPB ps.length p=true)(s:ByteArray):PC prog 187 [aTr ps,ai p,astr s] (ab (knownB ps p s)):=by
 obtain⟨p,rfl,hp⟩:=isPB_nat hpb
 have hm:=List.getElem_mem hp
 have hc:=vars_containsFunc ps[p].vars (hs.vars _ hm) (.clo 223 [.rp 1 [astr s] 0 0]) rfl (nmB s) fun v _=>(predtype_known1 v s).clo
 have hk:knownB ps p s=ps[p].vars.any (nmB s):=by unfold knownB;simp only[Int.toNat_natCast,List.getElem?_eq_getElem hp]
 have hgp:=getD_map (f:=aPr) hp
 rw[hk]
 generalize ps[p].vars.any (nmB s)=b at *
 refine PE 15 [.tmp 6] [3,5] func187 ?_;simp only[go_sem]
 refine W1 hgp ?_
 refine Sd ?_
 refine Vu hc ?_
 refine Wk ?_
 exact Rz
theorem predtype_resolved1 (ps:List Pr)(hs:Sm ps)(x:Pd):PC prog 185 [aPd x,.rp 1 [aTr ps] 0 0] (ab (resB ps x)):=by
 obtain⟨k,n,p,q,s,l⟩:=x
 have hsp:resB ps (.mk k n p q s l)=if k=2 then isPB ps.length p && decide (q=0) && knownB ps p s else if k=3 then isPB ps.length p && decide (q=0) && decide (s=ByteArray.empty) else
  if k=4 then isPB ps.length p && isPB ps.length q && !decide (p=q) && decide (s=ByteArray.empty) else true:=rfl
 generalize resB ps (.mk k n p q s l)=B at *
 have h1:=predtype_isProc ps p
 have h2:=predtype_isProc ps q
 have hkn:=fun h=>predtype_known ps hs p h s
 generalize isPB ps.length p=P at *
 generalize isPB ps.length q=Q at *
 generalize knownB ps p s=K at *
 refine PE 65 [.tmp 3] [2] func185 ?_;simp only[go_sem]
 refine Wk ?_
 constructor<;>intro h3
 ·rw[if_pos h3] at hsp
  refine Wk ?_
  refine Sd ?_
  refine Vu h1 ?_
  refine GCall.use (ab K) (fun g=>⟨At,(hkn g.1).val.use ⟨rfl,rfl⟩⟩) ?_;simp only[go_sem]
  refine Sd ?_
  refine Wk ?_
  refine Rq ?_
  rw[hsp]
 rw[if_neg h3] at hsp
 refine Wk ?_
 constructor<;>intro h4
 ·rw[if_pos h4] at hsp
  refine Wk ?_
  refine Sd ?_
  refine Vu h1 ?_
  refine Wk ?_
  refine Rq ?_
  rw[hsp];rfl
 rw[if_neg h4] at hsp
 refine Wk ?_
 constructor<;>intro h5
 ·rw[if_pos h5] at hsp
  refine Wk ?_
  refine Sd ?_
  refine Vu h1 ?_
  refine Sd ?_
  refine Gc h2 ?_
  refine Sd ?_
  refine Wk ?_
  refine Rq ?_
  rw[hsp];rfl
 rw[if_neg h5] at hsp
 refine Wk ?_
 refine Rq ?_
 rw[hsp]
theorem predtype_resolved (ps:List Pr)(hs:Sm ps)(t:Pd)(hz:szF t<=1000000):PC prog 150 [aTr ps,aPd t] (ab (allB (resB ps) t)):=by
 have he:=predtype_eachC (resB ps) 185 [.rp 1 [aTr ps] 0 0] (fun x hx=>(predtype_resolved1 ps hs x).clo) t hz
 generalize allB (resB ps) t=b at *
 obtain⟨k,n,p,q,s,l⟩:=t
 simp only[aPd_mk] at *
 refine PE 8 [.tmp 4] [2,3] func150 ?_;simp only[go_sem]
 refine Wk ?_
 refine Sd ?_
 refine Vu he ?_
 refine Wk ?_
 exact Rz
def varX (ps:List Pr)(p:Int)(s:ByteArray):Int:=match ps[p.toNat]? with|some x=>varIx x.vars s|none=>-1
theorem varX_get {ps:List Pr}{p:Nat}(hp:p<ps.length)(s:ByteArray):varX ps p s=varIx ps[p].vars s:=by unfold varX;simp only[Int.toNat_natCast,List.getElem?_eq_getElem hp]
theorem varIx_neg (vs:List (ByteArray × Int))(s:ByteArray):varIx vs s<0↔vs.any (nmB s)=false:=by
 unfold varIx
 cases h:vs.findIdx? (nmB s) with
 | none=>simp only[List.findIdx?_eq_none_iff] at h;simp only[List.any_eq_false];exact⟨fun _ x hx=>by simp [h x hx],fun _=>by omega⟩
 | some i =>
  rw[List.findIdx?_eq_some_iff_getElem] at h
  obtain⟨hi,h1,_⟩:=h
  refine⟨fun h=>by (have:(0:Int)<=(i:Int):=by omega);exact absurd h (by simp),fun h=>?_⟩
  rw[List.any_eq_false] at h
  exact absurd h1 (by simpa using h _ (List.getElem_mem hi))
theorem known_ix {vs:List (ByteArray × Int)}{s:ByteArray}(h:vs.any (nmB s)=true):∃i:Nat,varIx vs s=i/\i<vs.length:=by
 unfold varIx
 cases hf:vs.findIdx? (nmB s) with
 | none =>
  rw[List.findIdx?_eq_none_iff] at hf
  obtain⟨x,hx,hn⟩:=List.any_eq_true.1 h
  rw[hf x hx] at hn;cases hn
 | some i =>
  rw[List.findIdx?_eq_some_iff_getElem] at hf
  obtain⟨hi,_⟩:=hf
  exact⟨i,rfl,hi⟩
theorem known_get {ps:List Pr}{p:Nat}(hp:p<ps.length){s:ByteArray}(h:knownB ps p s=true):ps[p].vars.any (nmB s)=true:=by
 unfold knownB at h;simpa only [Int.toNat_natCast,List.getElem?_eq_getElem hp] using h
theorem fstF_zero {f:Nat->Int}{n:Nat}(h:fstF f n=0):∀i,i<n->f i=0:=by
 intro i
 induction i using Nat.strongRecOn with
 | _ i ih =>
  intro hi
  by_cases h0:f i=0
  ·exact h0
  ·rw[fstF_hit hi (fun j hj=>ih j hj (by omega)) h0] at h;exact h
theorem procF_of_valid {ps:List Pr}(h:validF ps=true){p:Nat}(hp:p<ps.length):procF ps p=0:=by
 have h0:=(valid_parts h).1
 unfold procFirst at h0
 rw[Option.map_eq_none_iff,List.find?_eq_none] at h0
 simpa using h0 p (List.mem_range.2 hp)
theorem evF_parts {ps:List Pr}{p:Nat}(hp:p<ps.length){i:Nat}(hi:i<ps[p].evs.length):evF ps p i=0↔formedI ps.length p ps[p].evs[i]=true/\(0<=ps[p].evs[i].time/\ps[p].evs[i].time<=1099511627776/\lastT ps[p].evs i<=ps[p].evs[i].time) /\
  ps[p].evs[i].asg.length<=8/\∀k,k<ps[p].evs[i].asg.length->asgF ps[p].vars.length ps[p].evs[i].asg k=0:=by
 have e:evF ps p i=if !formedI ps.length p ps[p].evs[i] then 3 else if !inI ps[p].evs[i].time 0 1099511627776 || decide (ps[p].evs[i].time<lastT ps[p].evs i) then 11 else if 8<ps[p].evs[i].asg.length then 5 else fstF (asgF ps[p].vars.length ps[p].evs[i].asg) ps[p].evs[i].asg.length:=by
  unfold evF;simp only[List.getElem?_eq_getElem hp,List.getElem?_eq_getElem hi]
 rw[e]
 constructor
 ·intro h
  split at h
  ·cases h
  ·rename_i h1
   split at h
   ·cases h
   ·rename_i h2
    split at h
    ·cases h
    ·simp only[inI,Bool.or_eq_true,Bool.not_eq_true',not_or,Bool.not_eq_false,Bool.and_eq_true,decide_eq_true_eq] at h2
     exact⟨by simpa using h1,⟨h2.1.1,h2.1.2,by omega⟩,by omega,fstF_zero h⟩
 ·rintro⟨h1,⟨h2,h3,h4⟩,h5,h6⟩
  rw[if_neg (by rw[h1];decide),if_neg (by simp only[inI,Bool.or_eq_true,Bool.not_eq_true',not_or,Bool.not_eq_false,Bool.and_eq_true,decide_eq_true_eq];omega),if_neg (by omega),fstF_none h6]
theorem evF_of_valid {ps:List Pr}(h:validF ps=true){p:Nat}(hp:p<ps.length){i:Nat}(hi:i<ps[p].evs.length):evF ps p i=0:=evFirst_get (valid_parts h).2.1 hp hi
theorem valid_cyc {ps:List Pr}(h:validF ps=true):cycF ps=none:=by
 obtain⟨h1,h2,h3⟩:=valid_parts h
 unfold validF faultF at h
 rw[h1,h2,h3] at h
 simp only[decide_eq_true_eq] at h
 split at h
 ·cases h
 ·split at h
  ·cases h
  ·assumption
section
variable {ps:List Pr} {c:List Int}
end
def mn2 (a b:Int):Int:=if b<a then b else a
def mx2 (a b:Int):Int:=if a<b then b else a
def minL:List Int->Int | []=>0|a :: r=>r.foldl mn2 a
def maxL:List Int->Int | []=>0|a :: r=>r.foldl mx2 a
theorem mn2_le (a b:Int):mn2 a b<=a/\mn2 a b<=b:=by unfold mn2;split <;> omega
theorem mx2_le (a b:Int):a<=mx2 a b/\b<=mx2 a b:=by unfold mx2;split <;> omega
theorem minL_snoc {l:List Int}(h:l ≠ [])(y:Int):minL (l ++ [y])=mn2 (minL l) y:=by
 cases l with
 | nil=>exact absurd rfl h
 | cons a r=>simp only[minL,List.cons_append,List.foldl_append,List.foldl_cons,List.foldl_nil]
theorem maxL_snoc {l:List Int}(h:l ≠ [])(y:Int):maxL (l ++ [y])=mx2 (maxL l) y:=by
 cases l with
 | nil=>exact absurd rfl h
 | cons a r=>simp only[maxL,List.cons_append,List.foldl_append,List.foldl_cons,List.foldl_nil]
theorem fold_mn (r:List Int):∀a,r.foldl mn2 a<=a/\∀y ∈ r,r.foldl mn2 a<=y:=by
 induction r with
 | nil=>intro a;exact⟨Int.le_refl _,fun y hy=>by cases hy⟩
 | cons b r ih =>
  intro a
  obtain⟨h1,h2⟩:=ih (mn2 a b)
  have:=mn2_le a b
  simp only[List.foldl_cons]
  refine⟨by omega,fun y hy=>?_⟩
  rcases List.mem_cons.1 hy with rfl|hy
  ·omega
  ·exact h2 y hy
theorem fold_mx (r:List Int):∀a,a<=r.foldl mx2 a/\∀y ∈ r,y<=r.foldl mx2 a:=by
 induction r with
 | nil=>intro a;exact⟨Int.le_refl _,fun y hy=>by cases hy⟩
 | cons b r ih =>
  intro a
  obtain⟨h1,h2⟩:=ih (mx2 a b)
  have:=mx2_le a b
  simp only[List.foldl_cons]
  refine⟨by omega,fun y hy=>?_⟩
  rcases List.mem_cons.1 hy with rfl|hy
  ·omega
  ·exact h2 y hy
theorem minL_le {l:List Int}{y:Int}(h:y ∈ l):minL l<=y:=by
 cases l with
 | nil=>cases h
 | cons a r=>rcases List.mem_cons.1 h with rfl|h;exact(fold_mn r _).1;exact(fold_mn r _).2 _ h
theorem le_maxL {l:List Int}{y:Int}(h:y ∈ l):y<=maxL l:=by
 cases l with
 | nil=>cases h
 | cons a r=>rcases List.mem_cons.1 h with rfl|h;exact(fold_mx r _).1;exact(fold_mx r _).2 _ h
theorem minL_take {l:List Int}{k:Nat}(h0:0<k)(hk:k<l.length):minL (l.take (k+1))=mn2 (minL (l.take k)) l[k]:=by
 rw[List.take_succ_eq_append_getElem hk,minL_snoc]
 intro e;rw[List.take_eq_nil_iff] at e;rcases e with e|e
 ·omega
 ·subst e;simp at hk
theorem maxL_take {l:List Int}{k:Nat}(h0:0<k)(hk:k<l.length):maxL (l.take (k+1))=mx2 (maxL (l.take k)) l[k]:=by
 rw[List.take_succ_eq_append_getElem hk,maxL_snoc]
 intro e;rw[List.take_eq_nil_iff] at e;rcases e with e|e
 ·omega
 ·subst e;simp at hk
def valsF (x:Pr)(v:Nat):List Int:=(List.range (x.evs.length+1)).map fun k=>(stateAt x k).getD v 0
theorem valsF_length (x:Pr)(v:Nat):(valsF x v).length=x.evs.length+1:=by unfold valsF;simp
theorem valsF_get (x:Pr)(v:Nat){k:Nat}(hk:k<(valsF x v).length):(valsF x v)[k]=(stateAt x k).getD v 0:=by unfold valsF;simp
theorem valsF_mem (x:Pr)(v:Nat){k:Nat}(hk:k<=x.evs.length):(stateAt x k).getD v 0 ∈ valsF x v:=by
 unfold valsF;rw[List.mem_map];exact⟨k,List.mem_range.2 (by omega),rfl⟩
def varLo (ps:List Pr)(p:Int)(s:ByteArray):Int:=match ps[p.toNat]? with|some x=>minL (valsF x (varIx x.vars s).toNat)|none=>0
def varHi (ps:List Pr)(p:Int)(s:ByteArray):Int:=match ps[p.toNat]? with|some x=>maxL (valsF x (varIx x.vars s).toNat)|none=>0
def evN (ps:List Pr)(p:Int):Int:=match ps[p.toNat]? with|some x=>x.evs.length|none=>0
def sentTo (q:Int)(e:Ev):Bool:=decide (e.kind=2) && decide (e.peer=q)
def msgN (ps:List Pr)(p q:Int):Int:=match ps[p.toNat]? with|some x=>(x.evs.countP (sentTo q):Int)|none=>0
def tooB (a b:Int):Bool:=decide (a < -1125899906842624) || decide (1125899906842624<b)
def absF (a:Int):Int:=mx2 a (-a)
def timesF (a b:Int):Int:=if a=0\/b=0 then 0 else if 1125899906842624 / absF b<absF a then (if (decide (a<0) != decide (b<0))=true then -1125899906842625 else 1125899906842625) else a * b
abbrev Bd:=Int × Int × Bool
def bdL (ps:List Pr)(k n p q:Int)(s:ByteArray):Int × Int:=if k=1 then (n,n) else if k=3 then (0,evN ps p) else if k=4 then (0,msgN ps p q) else (varLo ps p s,varHi ps p s)
def bd2 (k:Int)(a b:Bd):Int × Int:=if k=5 then (-a.2.1,-a.1) else if k=6 then (a.1+b.1,a.2.1+b.2.1) else if k=7 then (a.1 - b.2.1,a.2.1 - b.1) else
 (minL [timesF a.1 b.1,timesF a.1 b.2.1,timesF a.2.1 b.1,timesF a.2.1 b.2.1],maxL [timesF a.1 b.1,timesF a.1 b.2.1,timesF a.2.1 b.1,timesF a.2.1 b.2.1])
def bdG (i:Int × Int):Bd:=(i.1,i.2,!tooB i.1 i.2)
def bdN (ps:List Pr)(k n p q:Int)(s:ByteArray):List Bd->Bd
 | []=>bdG (bdL ps k n p q s)
 | [a]=>if a.2.2=true then bdG (bd2 k a a) else (0,0,false)
 | a :: b :: _=>if a.2.2=true/\b.2.2=true then bdG (bd2 k a b) else (0,0,false)
mutual
def intF (ps:List Pr):Pd->Bd
 | .mk k n p q s l=>bdN ps k n p q s (intL ps l)
def intL (ps:List Pr):List Pd->List Bd
 | []=>[]
 | x :: r=>intF ps x :: intL ps r
end
theorem intL_map (ps:List Pr):∀l,intL ps l=l.map (intF ps)
 | []=>by rw[intL];rfl
 | x :: r=>by rw[intL,intL_map ps r];rfl
theorem intF_mk (ps:List Pr)(k n p q:Int)(s:ByteArray)(l:List Pd):intF ps (.mk k n p q s l)=bdN ps k n p q s (l.map (intF ps)):=by rw[intF,intL_map]
mutual
def fitB (ps:List Pr):Pd->Bool
 | .mk k n p q s l=>if k<=8 then (intF ps (.mk k n p q s l)).2.2 else fitL ps l
def fitL (ps:List Pr):List Pd->Bool
 | []=>true
 | x :: r=>fitB ps x && fitL ps r
end
theorem fitL_all (ps:List Pr):∀l,fitL ps l=l.all (fitB ps)
 | []=>by rw[fitL];rfl
 | x :: r=>by rw[fitL,fitL_all ps r];rfl
theorem fitB_mk (ps:List Pr)(k n p q:Int)(s:ByteArray)(l:List Pd):fitB ps (.mk k n p q s l)=if k<=8 then (intF ps (.mk k n p q s l)).2.2 else l.all (fitB ps):=by rw[fitB,fitL_all]
def okT (ps:List Pr)(t:Pd):Bool:=allB locB t && allB (resB ps) t && allB typB t
theorem allB_sub {f:Pd->Bool}{k n p q:Int}{s:ByteArray}{l:List Pd}(h:allB f (.mk k n p q s l)=true):f (.mk k n p q s l)=true/\∀x ∈ l,allB f x=true:=by
 rw[allB_mk,Bool.and_eq_true,List.all_eq_true] at h;exact h
theorem okT_sub {ps:List Pr}{k n p q:Int}{s:ByteArray}{l:List Pd}(h:okT ps (.mk k n p q s l)=true) :
  locB (.mk k n p q s l)=true/\resB ps (.mk k n p q s l)=true/\typB (.mk k n p q s l)=true/\∀x ∈ l,okT ps x=true/\resF x.kind=needF k:=by
 unfold okT at *
 simp only[Bool.and_eq_true] at h
 obtain⟨⟨h1,h2⟩,h3⟩:=h
 obtain⟨a1,b1⟩:=allB_sub h1
 obtain⟨a2,b2⟩:=allB_sub h2
 obtain⟨a3,b3⟩:=allB_sub h3
 refine⟨a1,a2,a3,fun x hx=>⟨by simp only[Bool.and_eq_true];exact⟨⟨b1 x hx,b2 x hx⟩,b3 x hx⟩,?_⟩⟩
 unfold typB at a3
 have:=List.any_eq_false.1 (Bool.not_eq_true' _ ▸ a3:(l.any fun x=>tyNe k x.kind)=false) x hx
 unfold tyNe at this
 simpa using this
theorem loc_len {k n p q:Int}{s:ByteArray}{l:List Pd}(h:locB (.mk k n p q s l)=true):partsF k=l.length/\numB k n=true:=by
 unfold locB at h
 simp only[Bool.and_eq_true,decide_eq_true_eq] at h
 exact h.1
structure Obs where
 var:Int->ByteArray->Int
 cnt:Int->Int
 chn:Int->Int->Int
def valN (o:Obs)(k n p q:Int)(s:ByteArray):List Int->Int
 | []=>if k=1 then n else if k=2 then o.var p s else if k=3 then o.cnt p else o.chn p q
 | [a]=>-a
 | a :: b :: _=>if k=6 then a+b else if k=7 then a - b else a * b
mutual
def valF (o:Obs):Pd->Int
 | .mk k n p q s l=>valN o k n p q s (valL o l)
def valL (o:Obs):List Pd->List Int
 | []=>[]
 | x :: r=>valF o x :: valL o r
end
theorem valL_map (o:Obs):∀l,valL o l=l.map (valF o)
 | []=>by rw[valL];rfl
 | x :: r=>by rw[valL,valL_map o r];rfl
theorem valF_mk (o:Obs)(k n p q:Int)(s:ByteArray)(l:List Pd):valF o (.mk k n p q s l)=valN o k n p q s (l.map (valF o)):=by rw[valF,valL_map]
def obsB (ps:List Pr)(o:Obs):Pd->Prop
 | .mk k _ p q s _=>(k=2->varLo ps p s<=o.var p s/\o.var p s<=varHi ps p s)/\(k=3->0<=o.cnt p/\o.cnt p<=evN ps p)/\(k=4->0<=o.chn p q/\o.chn p q<=msgN ps p q)
mutual
def AllP (f:Pd->Prop):Pd->Prop
 | .mk k n p q s l=>f (.mk k n p q s l)/\AllPL f l
def AllPL (f:Pd->Prop):List Pd->Prop
 | []=>True
 | x :: r=>AllP f x/\AllPL f r
end
theorem AllPL_mem {f:Pd->Prop} : ∀ {l:List Pd},AllPL f l->∀x ∈ l,AllP f x
 | x :: r,h,y,hy=>by
  rw[AllPL] at h
  rcases List.mem_cons.1 hy with rfl|hy
  ·exact h.1
  ·exact AllPL_mem h.2 y hy
theorem AllP_sub {f:Pd->Prop}{k n p q:Int}{s:ByteArray}{l:List Pd}(h:AllP f (.mk k n p q s l)):f (.mk k n p q s l)/\∀x ∈ l,AllP f x:=by
 rw[AllP] at h;exact⟨h.1,AllPL_mem h.2⟩
theorem AllPL_of {f:Pd->Prop} : ∀ {l:List Pd},(∀x ∈ l,AllP f x)->AllPL f l
 | [],_=>by rw[AllPL];trivial
 | x :: r,h=>by rw[AllPL];exact⟨h x List.mem_cons_self,AllPL_of fun y hy=>h y (List.mem_cons_of_mem _ hy)⟩
theorem AllP_mk {f:Pd->Prop}{k n p q:Int}{s:ByteArray}{l:List Pd}(h:f (.mk k n p q s l))(hs:∀x ∈ l,AllP f x):AllP f (.mk k n p q s l):=by
 rw[AllP];exact⟨h,AllPL_of hs⟩
theorem AllP_of_allB {f:Pd->Bool}{g:Pd->Prop}(h:∀x,f x=true->g x)(t:Pd):allB f t=true->AllP g t:=by
 induction t using Pd.ind with
 | _ k n p q s l ih=>intro ht;obtain⟨a,b⟩:=allB_sub ht;exact AllP_mk (h _ a) fun x hx=>ih x hx (b x hx)
theorem tooB_false {a b:Int}(h:(!tooB a b)=true) : -1125899906842624<=a/\b<=1125899906842624:=by
 unfold tooB at h;simp at h;omega
theorem absF_eq (a:Int):absF a=a.natAbs:=by unfold absF mx2;split <;> omega
theorem timesF_ok {a b:Int}(h1 : -1125899906842624<=timesF a b)(h2:timesF a b<=1125899906842624):timesF a b=a * b:=by
 unfold timesF at *
 split
 ·rename_i h;rcases h with rfl|rfl <;> simp
 ·rename_i h
  rw[if_neg h] at h1 h2
  split
  ·rename_i hh;rw[if_pos hh] at h1 h2
   by_cases hx:(decide (a<0) != decide (b<0))=true
   ·rw[if_pos hx] at h1;omega
   ·rw[if_neg hx] at h2;omega
  ·rfl
theorem mul_ends {a b y:Int}{x:Int}(hx1:a<=x)(hx2:x<=b):(a * y<=x * y/\x * y<=b * y)\/(b * y<=x * y/\x * y<=a * y):=by
 rcases Int.le_total 0 y with h|h
 ·exact .inl ⟨Int.mul_le_mul_of_nonneg_right hx1 h,Int.mul_le_mul_of_nonneg_right hx2 h⟩
 ·exact .inr ⟨Int.mul_le_mul_of_nonpos_right hx2 h,Int.mul_le_mul_of_nonpos_right hx1 h⟩
theorem mul_ends' {a b x y:Int}(hx1:a<=x)(hx2:x<=b):(y * a<=y * x/\y * x<=y * b)\/(y * b<=y * x/\y * x<=y * a):=by
 rw[Int.mul_comm y a,Int.mul_comm y b,Int.mul_comm y x];exact mul_ends hx1 hx2
theorem mul_hull {a b c d x y m M:Int}(hx1:a<=x)(hx2:x<=b)(hy1:c<=y)(hy2:y<=d)(h1:m<=a * c/\a * c<=M)(h2:m<=a * d/\a * d<=M)(h3:m<=b * c/\b * c<=M)(h4:m<=b * d/\b * d<=M) :
  m<=x * y/\x * y<=M:=by
 have e1:=mul_ends (y:=y) hx1 hx2
 have e2:=mul_ends' (y:=a) hy1 hy2
 have e3:=mul_ends' (y:=b) hy1 hy2
 generalize x * y=u at *
 generalize a * y=u1 at *
 generalize b * y=u2 at *
 generalize a * c=v1 at *
 generalize a * d=v2 at *
 generalize b * c=v3 at *
 generalize b * d=v4 at *
 omega
theorem hull4 (a b c d:Int):(minL [a,b,c,d]<=a/\a<=maxL [a,b,c,d])/\(minL [a,b,c,d]<=b/\b<=maxL [a,b,c,d])/\(minL [a,b,c,d]<=c/\c<=maxL [a,b,c,d])/\(minL [a,b,c,d]<=d/\d<=maxL [a,b,c,d]) :=
 ⟨⟨minL_le (by simp),le_maxL (by simp)⟩,⟨minL_le (by simp),le_maxL (by simp)⟩,⟨minL_le (by simp),le_maxL (by simp)⟩,⟨minL_le (by simp),le_maxL (by simp)⟩⟩
theorem parts_cases (k:Int):(partsF k=0/\((1<=k/\k<=4)\/k=13\/k=14))\/(partsF k=1/\(k=5\/k=15\/(18<=k/\k<=21)))\/(partsF k=2/\((6<=k/\k<=12)\/k=16\/k=17))\/partsF k = -1:=by
 unfold partsF
 split
 ·exact .inl ⟨rfl,by omega⟩
 ·split
  ·exact .inr (.inl ⟨rfl,by omega⟩)
  ·split
   ·exact .inr (.inr (.inl ⟨rfl,by omega⟩))
   ·exact .inr (.inr (.inr rfl))
theorem resF_le {k:Int}(h:resF k=1):k<=8:=by unfold resF at h;split at h <;> omega
theorem child_le {ps:List Pr}{k n p q:Int}{s:ByteArray}{l:List Pd}(h:okT ps (.mk k n p q s l)=true)(hk:k<=12):∀x ∈ l,okT ps x=true/\x.kind<=8:=by
 intro x hx
 obtain⟨h1,h2⟩:=(okT_sub h).2.2.2 x hx
 refine⟨h1,resF_le ?_⟩
 rw[h2];unfold needF;rw[if_pos hk]
theorem len0 {α:Type}{l:List α}(h:l.length=0):l=[]:=List.length_eq_zero_iff.1 h
theorem len1 {α:Type}{l:List α}(h:l.length=1):∃a,l=[a]:=List.length_eq_one_iff.1 h
theorem len2 {α:Type}{l:List α}(h:l.length=2):∃a b,l=[a,b]:=by
 match l,h with
 | [a,b],_=>exact⟨a,b,rfl⟩
theorem valF_bounds (ps:List Pr)(o:Obs)(t:Pd):okT ps t=true->t.kind<=8->AllP (obsB ps o) t->(intF ps t).2.2=true ->
  (intF ps t).1<=valF o t/\valF o t<=(intF ps t).2.1 /\ -1125899906842624<=(intF ps t).1/\(intF ps t).2.1<=1125899906842624:=by
 induction t using Pd.ind with
 | _ k n p q s l ih =>
 intro ht hk ho hi
 obtain⟨h1,h2,h3,h4⟩:=okT_sub ht
 obtain⟨hpl,hnu⟩:=loc_len h1
 obtain⟨o1,o2⟩:=AllP_sub ho
 have hch:=child_le ht (show k<=12 by simp only[Pd.kind] at hk;omega)
 simp only[Pd.kind] at hk
 rw[intF_mk] at *
 rw[valF_mk]
 rcases parts_cases k with ⟨e,hc⟩|⟨e,hc⟩|⟨e,hc⟩|e
 ·obtain rfl:=len0 (l:=l) (by omega)
  simp only[List.map_nil,bdN,bdG,valN] at *
  obtain⟨b1,b2⟩:=tooB_false hi
  obtain⟨v2,v3,v4⟩:=o1
  have hk4:k=1\/k=2\/k=3\/k=4:=by omega
  refine⟨?_,?_,b1,b2⟩
  ·rcases hk4 with rfl|rfl|rfl|rfl
   ·simp [bdL]
   ·have:=(v2 rfl).1;simpa [bdL] using this
   ·have:=(v3 rfl).1;simpa [bdL] using this
   ·have:=(v4 rfl).1;simpa [bdL] using this
  ·rcases hk4 with rfl|rfl|rfl|rfl
   ·simp [bdL]
   ·have:=(v2 rfl).2;simpa [bdL] using this
   ·have:=(v3 rfl).2;simpa [bdL] using this
   ·have:=(v4 rfl).2;simpa [bdL] using this
 ·obtain⟨a,rfl⟩:=len1 (l:=l) (by omega)
  simp only[List.map_cons,List.map_nil,bdN,valN] at *
  split at hi
  ·rename_i ha
   rw[if_pos ha]
   obtain⟨c1,c2⟩:=hch a (by simp)
   obtain⟨d1,d2,d3,d4⟩:=ih a (by simp) c1 c2 (o2 a (by simp)) ha
   have k5:k=5:=by omega
   simp only[bdG,bd2,if_pos k5] at *
   omega
  ·cases hi
 ·obtain⟨a,b,rfl⟩:=len2 (l:=l) (by omega)
  simp only[List.map_cons,List.map_nil,bdN,valN] at *
  split at hi
  ·rename_i hab
   obtain⟨ha,hb⟩:=hab
   rw[if_pos ⟨ha,hb⟩]
   obtain⟨c1,c2⟩:=hch a (by simp)
   obtain⟨d1,d2,d3,d4⟩:=ih a (by simp) c1 c2 (o2 a (by simp)) ha
   obtain⟨c3,c4⟩:=hch b (by simp)
   obtain⟨f1,f2,f3,f4⟩:=ih b (by simp) c3 c4 (o2 b (by simp)) hb
   have hbd:=tooB_false hi
   generalize intF ps a=A at *
   generalize intF ps b=B at *
   obtain⟨a1,a2,a3⟩:=A
   obtain⟨b1,b2,b3⟩:=B
   generalize valF o a=x at *
   generalize valF o b=y at *
   simp only at *
   have k5:¬k=5:=by omega
   by_cases k6:k=6
   ·simp only[bdG,bd2,if_neg k5,if_pos k6] at *;omega
   by_cases k7:k=7
   ·simp only[bdG,bd2,if_neg k5,if_neg k6,if_pos k7] at *;omega
   simp only[bdG,bd2,if_neg k5,if_neg k6,if_neg k7] at *
   obtain⟨g1,g2,g3,g4⟩:=hull4 (timesF a1 b1) (timesF a1 b2) (timesF a2 b1) (timesF a2 b2)
   have t1:=timesF_ok (a:=a1) (b:=b1) (by omega) (by omega)
   have t2:=timesF_ok (a:=a1) (b:=b2) (by omega) (by omega)
   have t3:=timesF_ok (a:=a2) (b:=b1) (by omega) (by omega)
   have t4:=timesF_ok (a:=a2) (b:=b2) (by omega) (by omega)
   rw[t1,t2,t3,t4] at hbd ⊢
   obtain⟨g1,g2,g3,g4⟩:=hull4 (a1 * b1) (a1 * b2) (a2 * b1) (a2 * b2)
   obtain⟨r1,r2⟩:=mul_hull d1 d2 f1 f2 g1 g2 g3 g4
   exact⟨r1,r2,hbd.1,hbd.2⟩
  ·cases hi
 ·omega
def truN (k:Int)(v:List Int)(b:List Bool):Bool :=
 if k=9 then decide (v.getD 0 0=v.getD 1 0) else if k=10 then !decide (v.getD 0 0=v.getD 1 0) else if k=11 then decide (v.getD 0 0<v.getD 1 0) else if k=12 then decide (v.getD 0 0<=v.getD 1 0) else
 if k=13 then true else if k=14 then false else if k=15 then !b.getD 0 false else if k=16 then b.getD 0 false && b.getD 1 false else b.getD 0 false || b.getD 1 false
mutual
def truF (o:Obs):Pd->Bool
 | .mk k _ _ _ _ l=>truN k (valL o l) (truL o l)
def truL (o:Obs):List Pd->List Bool
 | []=>[]
 | x :: r=>truF o x :: truL o r
end
theorem truL_map (o:Obs):∀l,truL o l=l.map (truF o)
 | []=>by rw[truL];rfl
 | x :: r=>by rw[truL,truL_map o r];rfl
theorem truF_mk (o:Obs)(k n p q:Int)(s:ByteArray)(l:List Pd):truF o (.mk k n p q s l)=truN k (l.map (valF o)) (l.map (truF o)):=by rw[truF,truL_map,valL_map]
theorem child_bool {ps:List Pr}{k n p q:Int}{s:ByteArray}{l:List Pd}(h:okT ps (.mk k n p q s l)=true)(hk:13<=k):∀x ∈ l,okT ps x=true/\9<=x.kind:=by
 intro x hx
 obtain⟨h1,h2⟩:=(okT_sub h).2.2.2 x hx
 refine⟨h1,?_⟩
 unfold needF at h2
 rw[if_neg (by omega)] at h2
 unfold resF at h2
 split at h2 <;> omega
def tempB:Pd->Bool | .mk k _ _ _ _ _=>decide (18<=k/\k<=21)
def ntmB (x:Pd):Bool:=!tempB x
noncomputable def checkF (ps:List Pr)(t:Pd):Int:=if (validF ps && formedB t)=false then 1 else if allB (resB ps) t=false then 13 else if typedB t=false then 14 else if fitB ps t=false then 9 else 0
theorem checkF_zero {ps:List Pr}{t:Pd}(h:checkF ps t=0):validF ps=true/\formedB t=true/\okT ps t=true/\fitB ps t=true:=by
 unfold checkF at h
 split at h
 ·cases h
 ·rename_i h1
  split at h
  ·cases h
  ·rename_i h2
   split at h
   ·cases h
   ·rename_i h3
    split at h
    ·cases h
    ·rename_i h4
     have h1:(validF ps && formedB t)=true:=by simpa using h1
     rw[Bool.and_eq_true] at h1
     refine⟨h1.1,h1.2,?_,by simpa using h4⟩
     unfold okT
     have h5:=h1.2
     unfold formedB at h5
     simp only[Bool.and_eq_true] at h5 ⊢
     exact⟨⟨h5.2,by simpa using h2⟩,by unfold typedB at h3;simpa using h3⟩
def lclB (pr:Int):Pd->Bool
 | .mk k _ p _ _ _=>if k=4\/(18<=k/\k<=21) then false else if k=2\/k=3 then decide (p=pr) else true
noncomputable def lclF (ps:List Pr)(pr k:Int)(t:Pd):Int :=
 if checkF ps t ≠ 0 then checkF ps t else if ¬(0<=pr/\pr<ps.length/\0<=k/\k<=evN ps pr) then 2 else if t.kind<=8 then 14 else if allB (lclB pr) t=false then 15 else 0
def cutO (ps:List Pr)(c:List Int)(ch:Int->Int->Int):Obs:=⟨fun p s=>match ps[p.toNat]? with|some x=>(stateAt x (c.getD p.toNat 0).toNat).getD (varIx x.vars s).toNat 0|none=>0,fun p=>c.getD p.toNat 0,ch⟩
def stC (n p:Nat)(k:Int):List Int:=(List.replicate n 0).set p k
def stO (ps:List Pr)(p:Nat)(k:Int):Obs:=cutO ps (stC ps.length p k) fun _ _=>0
def lclT (ps:List Pr)(p:Nat)(t:Pd)(k:Int):Bool:=truF (stO ps p k) t
def truthsF (ps:List Pr)(p:Nat)(t:Pd):List Bool:=(List.range ((evN ps p).toNat+1)).map fun (k:Nat)=>lclT ps p t k
theorem intF_le (ps:List Pr)(t:Pd):(intF ps t).1<=(intF ps t).2.1:=by
 induction t using Pd.ind with
 | _ k n p q s l ih =>
 rw[intF_mk]
 have hv:∀(v:Nat) (x:Pr),minL (valsF x v)<=maxL (valsF x v):=fun v x=>by
  have h:=valsF_mem x v (Nat.zero_le x.evs.length)
  have:=minL_le h;have:=le_maxL h;omega
 have h4:∀a b c d:Int,minL [a,b,c,d]<=maxL [a,b,c,d]:=fun a b c d=>by have:=(hull4 a b c d).1;omega
 have h2:∀a b:Bd,a.1<=a.2.1->b.1<=b.2.1->(bd2 k a b).1<=(bd2 k a b).2:=fun a b ha hb=>by
  unfold bd2
  split
  ·simp only;omega
  ·split
   ·simp only;omega
   ·split
    ·simp only;omega
    ·exact h4 _ _ _ _
 match l,ih with
 | [],_ =>
  simp only[List.map_nil,bdN,bdG]
  unfold bdL
  split
  ·exact Int.le_refl _
  ·split
   ·simp only[evN];split <;> omega
   ·split
    ·simp only[msgN];split <;> omega
    ·simp only[varLo,varHi];split
     ·exact hv _ _
     ·exact Int.le_refl _
 | [a],ih =>
  simp only[List.map_cons,List.map_nil,bdN]
  split
  ·exact h2 _ _ (ih a (by simp)) (ih a (by simp))
  ·exact Int.le_refl _
 | a :: b :: r,ih =>
  simp only[List.map_cons,bdN]
  split
  ·exact h2 _ _ (ih a (by simp)) (ih b (by simp))
  ·exact Int.le_refl _
theorem intF_ok (ps:List Pr)(t:Pd)(h:(intF ps t).2.2=true):(-1125899906842624<=(intF ps t).1/\(intF ps t).1<=1125899906842624) /\ -1125899906842624<=(intF ps t).2.1/\(intF ps t).2.1<=1125899906842624:=by
 have hle:=intF_le ps t
 obtain⟨k,n,p,q,s,l⟩:=t
 rw[intF_mk] at *
 have hg:∀i:Int × Int,(bdG i).2.2=true -> -1125899906842624<=(bdG i).1/\(bdG i).2.1<=1125899906842624:=fun i hi=>tooB_false hi
 match l with
 | []=>have:=hg _ h;simp only[List.map_nil,bdN] at *;omega
 | [a] =>
  simp only[List.map_cons,List.map_nil,bdN] at *
  split at h
  ·rename_i e;rw[if_pos e] at *;have:=hg _ h;omega
  ·cases h
 | a :: b :: r =>
  simp only[List.map_cons,bdN] at *
  split at h
  ·rename_i e;rw[if_pos e] at *;have:=hg _ h;omega
  ·cases h
def aIv (a b:Int):AV:=.agg [ai a,ai b]
def aBd (x:Bd):AV:=.tup [aIv x.1 x.2.1,ab x.2.2]
theorem quo_eq {a b:Int}(ha:0<=a)(ha':a<=1125899906842624)(hb:0<b):IntKind.i64.wrap (a.tdiv b)=a / b:=by
 rw[Int.tdiv_eq_ediv_of_nonneg ha]
 have h1:0<=a / b:=Int.ediv_nonneg ha (Int.le_of_lt hb)
 have h2:a / b<=a:=Int.ediv_le_self b ha
 exact wrap_i64 (by unfold I64;omega)
theorem mul_small {a b:Int}(hb:b ≠ 0)(h:¬1125899906842624 / absF b<absF a) : -1125899906842624<=a * b/\a * b<=1125899906842624:=by
 rw[absF_eq,absF_eq] at h
 have hb':(0:Int)<(b.natAbs:Int):=by omega
 have h1:(a.natAbs:Int) * (b.natAbs:Int)<=1125899906842624:=(Int.le_ediv_iff_mul_le hb').1 (by omega)
 have h2:((a * b).natAbs:Int)=(a.natAbs:Int) * (b.natAbs:Int):=by rw[Int.natAbs_mul];rfl
 omega
theorem mulW_eq {a b:Int}(h:I64 (a * b)):mulW a b=a * b:=wrap_i64 h
theorem predtype_abs (a:Int)(ha : -1125899906842625<=a/\a<=1125899906842625):PC prog 252 [ai a] (ai (absF a)):=by
 have hsp:absF a=if a < -a then -a else a:=rfl
 generalize absF a=x at *
 refine PE 7 [.tmp 2] [] func252 ?_;simp only[go_sem]
 refine Wk ?_
 refine Rq ?_
 rw[hsp]
theorem predtype_product (a b:Int)(ha : -1125899906842625<=a/\a<=1125899906842625)(hb : -1125899906842625<=b/\b<=1125899906842625):PC prog 227 [ai a,ai b] (ai (timesF a b)):=by
 have h1:=predtype_abs a ha
 have h2:=predtype_abs b hb
 have hsp:timesF a b=if a=0\/b=0 then 0 else if 1125899906842624 / absF b<absF a then (if (decide (a<0) != decide (b<0))=true then -1125899906842625 else 1125899906842625) else a * b:=rfl
 have hms:=fun h=>mul_small (a:=a) (b:=b) h
 have hpos:b ≠ 0->0<absF b:=fun h=>by rw[absF_eq];omega
 have hquo:=fun h=>quo_eq (a:=1125899906842624) (b:=absF b) (by decide) (by decide) h
 have hmw:=fun h=>mulW_eq (a:=a) (b:=b) h
 generalize timesF a b=r at *
 generalize absF a=A at *
 generalize absF b=B at *
 refine PE 29 [.tmp 4] [] func227 ?_;simp only[go_sem]
 refine Wk ?_
 constructor<;>intro h3
 ·refine Wk ?_
  refine Rq ?_
  rw[hsp,if_pos h3]
 intro h3'
 rw[if_neg (by intro h;rcases h with h|h;exact h3 h;exact h3' h)] at hsp
 have hB:=hpos h3'
 have hq:=hquo hB
 refine Wk ?_
 refine Sd ?_
 refine Vu h1 ?_
 refine Wk ?_
 refine Sd ?_
 refine Vu h2 ?_
 refine W1 hq ?_
 constructor<;>intro h4
 ·rw[if_pos h4] at hsp
  refine Wk ?_
  refine Wk ?_
  constructor<;>intro h5
  ·refine Wk ?_
   refine Rq ?_
   rw[hsp,if_pos (by simpa using h5)]
  ·refine Wk ?_
   refine Rq ?_
   rw[hsp,if_neg (by simpa using h5)]
 rw[if_neg h4] at hsp
 have hm:=hms h3' h4
 refine Wk ?_
 refine Rq ?_
 rw[hsp,hmw (by unfold I64;omega)]
theorem ints_minL (l:List Int)(hl:l.length<=2000000)(h0:0<l.length):PC prog 250 [aInts l] (ai (minL l)):=by
 have hg0:=getD_map (f:=ai) h0
 have hm1:minL (l.take 1)=l[0]:=by cases l with|nil=>simp at h0|cons a r=>rfl
 have hfull:minL (l.take l.length)=minL l:=by rw[List.take_length]
 generalize minL l=res at *
 refine PE 25 [.tmp 2] [] func250 ?_;simp only[go_sem]
 refine Wk ?_
 intro _
 refine W1 hg0 ?_
 refine AWp.block (AWp.loopN [3,4] [0] (fun m vs L=>∃i:Nat,1<=i/\i<=l.length/\m=l.length - i/\L=[]/\vs=[ai (minL (l.take i)),ai i]) (l.length - 1) ⟨1,by omega,by omega,rfl,rfl,by rw[hm1];rfl⟩ ?_)
 rintro m vs L - ⟨i,i1,i2,rfl,rfl,rfl⟩
 simp only[go_sem]
 refine Wk ?_
 constructor<;>intro h3
 ·have hil:i<l.length:=by omega
  have hg:=getD_map (f:=ai) hil
  have ht:=minL_take (l:=l) (by omega) hil
  refine W1 hg ?_
  refine⟨_,.refl _,l.length - (i+1),by omega,i+1,by omega,by omega,rfl,rfl,?_⟩
  rw[ht];rfl
 ·refine Wk ?_
  refine Rq ?_
  rw[<- hfull,show i=l.length by omega]
theorem ints_maxL (l:List Int)(hl:l.length<=2000000)(h0:0<l.length):PC prog 251 [aInts l] (ai (maxL l)):=by
 have hg0:=getD_map (f:=ai) h0
 have hm1:maxL (l.take 1)=l[0]:=by cases l with|nil=>simp at h0|cons a r=>rfl
 have hfull:maxL (l.take l.length)=maxL l:=by rw[List.take_length]
 generalize maxL l=res at *
 refine PE 25 [.tmp 2] [] func251 ?_;simp only[go_sem]
 refine Wk ?_
 intro _
 refine W1 hg0 ?_
 refine AWp.block (AWp.loopN [3,4] [0] (fun m vs L=>∃i:Nat,1<=i/\i<=l.length/\m=l.length - i/\L=[]/\vs=[ai (maxL (l.take i)),ai i]) (l.length - 1) ⟨1,by omega,by omega,rfl,rfl,by rw[hm1];rfl⟩ ?_)
 rintro m vs L - ⟨i,i1,i2,rfl,rfl,rfl⟩
 simp only[go_sem]
 refine Wk ?_
 constructor<;>intro h3
 ·have hil:i<l.length:=by omega
  have hg:=getD_map (f:=ai) hil
  have ht:=maxL_take (l:=l) (by omega) hil
  refine W1 hg ?_
  refine⟨_,.refl _,l.length - (i+1),by omega,i+1,by omega,by omega,rfl,rfl,?_⟩
  rw[ht];rfl
 ·refine Wk ?_
  refine Rq ?_
  rw[<- hfull,show i=l.length by omega]
theorem predtype_hull (l:List Int)(hl:l.length<=2000000)(h0:0<l.length):PC prog 226 [aInts l] (aIv (minL l) (maxL l)):=by
 have h1:=ints_minL l hl h0
 have h2:=ints_maxL l hl h0
 generalize minL l=a at *
 generalize maxL l=b at *
 refine PE 8 [.cell 2 241] [] func226 ?_;simp only[go_sem]
 refine Wk ?_
 intro b2
 refine Wk ?_
 refine Sd ?_
 refine Vu h1 ?_
 refine Wk ?_
 refine Sd ?_
 refine Vu h2 ?_
 refine Wk ?_
 refine Rq ?_
 rfl
theorem countP_take {l:List Ev}{f:Ev->Bool}{k:Nat}(hk:k<l.length):((l.take (k+1)).countP f:Int)=(l.take k).countP f+if f l[k]=true then 1 else 0:=by
 rw[List.take_succ_eq_append_getElem hk,List.countP_append,List.countP_cons,List.countP_nil]
 split <;> simp
theorem msgN_get {ps:List Pr}{p:Nat}(hp:p<ps.length)(q:Int):msgN ps p q=(ps[p].evs.countP (sentTo q):Int):=by unfold msgN;simp only[Int.toNat_natCast,List.getElem?_eq_getElem hp]
theorem evN_get {ps:List Pr}{p:Nat}(hp:p<ps.length):evN ps p=ps[p].evs.length:=by unfold evN;simp only[Int.toNat_natCast,List.getElem?_eq_getElem hp]
theorem predtype_messages (ps:List Pr)(hs:Sm ps)(p:Int)(hpb:isPB ps.length p=true)(q:Int):PC prog 248 [aTr ps,ai p,ai q] (ai (msgN ps p q)):=by
 obtain⟨p,rfl,hp⟩:=isPB_nat hpb
 have hm:=List.getElem_mem hp
 have hel:=hs.evs _ hm
 have hgp:=getD_map (f:=aPr) hp
 rw[msgN_get hp]
 refine PE 34 [.tmp 6] [3,9] func248 ?_;simp only[go_sem]
 refine W1 hgp ?_
 refine AWp.range' ps[p].evs.length [7] [2,15,16] (fun k vs L=>L=[]/\vs=[ai ((ps[p].evs.take k).countP (sentTo q):Int)]) (by omega) rfl rfl rfl ⟨rfl,rfl⟩ ?_ ?_
 ·rintro k vs L' hk - ⟨rfl,rfl⟩
  have hge:=getD_map (f:=aEv) hk
  have hst:=countP_take (f:=sentTo q) hk
  have hcl:(ps[p].evs.take k).countP (sentTo q)<=ps[p].evs.length:=Nat.le_trans List.countP_le_length (by rw[List.length_take];omega)
  have hsp:sentTo q ps[p].evs[k]=(decide (ps[p].evs[k].kind=2) && decide (ps[p].evs[k].peer=q)):=rfl
  generalize ps[p].evs[k]=e at *
  simp only[go_sem]
  refine W1 hge ?_
  intro b9
  refine Wk ?_
  constructor<;>intro h1
  ·intro h2
   refine Wk ?_
   refine⟨_,.refl _,rfl,?_⟩
   rw[hst,hsp,decide_eq_true h1,decide_eq_true h2]
   try rfl
  ·refine⟨_,.refl _,rfl,?_⟩
   rw[hst,hsp,if_neg (by simp only[Bool.and_eq_true,decide_eq_true_eq];exact fun h=>h1 h.1 h.2),Int.add_zero]
 ·rintro vs L' - ⟨rfl,rfl⟩
  simp only[go_sem]
  refine Wk ?_
  exact Rz
def aView (ps:List Pr)(c:List Int)(V:List (List Int)):AV:=.agg [aPrs ps,aInts c,aRows V]
theorem view_variable1 (v:ByteArray × Int)(k n p q:Int)(s:ByteArray)(l:List Pd):PC prog 234 [aVar v,.rp 6 [aPd (.mk k n p q s l)] 0 0] (ab (nmB s v)):=by
 generalize hb:nmB s v=b
 refine PE 9 [.tmp 3] [2] func234 ?_;simp only[go_sem]
 refine Wk ?_
 refine Rq ?_
 rw[<- hb];rfl
theorem view_variable (ps:List Pr)(hs:Sm ps)(c:List Int)(V:List (List Int))(k n:Int)(p:Nat)(q:Int)(s:ByteArray)(l:List Pd)(hp:p<ps.length)(hkn:knownB ps p s=true)
  (hV:p<V.length) (hr:V[p].length=ps[p].vars.length) :
  PC prog 197 [aView ps c V,aPd (.mk k n p q s l)] (ai (V[p].getD (varIx ps[p].vars s).toNat 0)):=by
 have hm:=List.getElem_mem hp
 have hk:=known_get hp hkn
 obtain⟨i,hi,hil⟩:=known_ix hk
 have hfi:PC prog 233 [aVars ps[p].vars,.clo 234 [.rp 6 [aPd (.mk k n p q s l)] 0 0]] (ai (varIx ps[p].vars s)) :=
  vars_indexFunc ps[p].vars (hs.vars _ hm) (.clo 234 [.rp 6 [aPd (.mk k n p q s l)] 0 0]) rfl (nmB s) fun v _=>(view_variable1 v k n p q s l).clo
 rw[hi] at hfi ⊢
 rw[Int.toNat_natCast]
 have hgp:=getD_map (f:=aPr) hp
 have hgV:=getD_map (f:=aInts) hV
 have hgr:=getD_map (f:=ai) (l:=V[p]) (k:=i) (by omega)
 have hres:V[p].getD i 0=V[p][i]'(by omega):=by rw[List.getD_eq_getElem?_getD,List.getElem?_eq_getElem (by omega)];rfl
 rw[hres]
 generalize V[p][i]'(by omega)=w at *
 have hrl:i<V[p].length:=by omega
 unfold aView
 simp only[aPd_mk] at *
 refine PE 25 [.tmp 4] [2,3] func197 ?_;simp only[go_sem]
 refine W1 hgp ?_
 refine Sd ?_
 refine(hfi).val.use ?_;simp only[go_sem,hgp,hgV,hgr]
 refine W2 hgV hgr ?_
 exact Rz
def leafOk (ps:List Pr)(c:List Int)(V:List (List Int))(o:Obs):Pd->Prop
 | .mk k n p q s l=>(k=2->PC prog 197 [aView ps c V,aPd (.mk k n p q s l)] (ai (o.var p s)))/\(k=3->0<=p/\c[p.toNat]?=some (o.cnt p)) /\
  (k=4->PC prog 198 [aView ps c V,aPd (.mk k n p q s l)] (ai (o.chn p q)))
theorem bd_child {ps:List Pr}{k n p q:Int}{s:ByteArray}{l:List Pd}(h:(intF ps (.mk k n p q s l)).2.2=true)(hl:l.length<=2):∀x ∈ l,(intF ps x).2.2=true:=by
 rw[intF_mk] at h
 match l,hl with
 | [],_=>intro x hx;cases hx
 | [a],_ =>
  simp only[List.map_cons,List.map_nil,bdN] at h
  split at h
  ·rename_i e;intro x hx;simp at hx;subst hx;exact e
  ·cases h
 | [a,b],_ =>
  simp only[List.map_cons,List.map_nil,bdN] at h
  split at h
  ·rename_i e;intro x hx;simp at hx;rcases hx with rfl|rfl;exact e.1;exact e.2
  ·cases h
theorem view_number (ps:List Pr)(c:List Int)(V:List (List Int))(o:Obs)(hcl:c.length<=1000000)(t:Pd):szF t<=1000000->okT ps t=true->t.kind<=8->(intF ps t).2.2=true->AllP (obsB ps o) t->AllP (leafOk ps c V o) t ->
  PC prog 159 [aView ps c V,aPd t] (ai (valF o t)):=by
 induction t using Pd.ind with
 | _ k n p q s l ih =>
 intro hz ht hk hi hob hlf
 have hbnd:=valF_bounds ps o _ ht hk hob hi
 obtain⟨o1,o2,o3,o4⟩:=okT_sub ht
 obtain⟨hpl,_⟩:=loc_len o1
 simp only[Pd.kind] at hk
 have hch:=child_le ht (show k<=12 by omega)
 have hsz:szF (.mk k n p q s l)=szL l+1:=by rw[szF]
 have hsp:=valF_mk o k n p q s l
 have hci:=bd_child hi
 obtain⟨⟨lf2,lf3,lf4⟩,hls⟩:=AllP_sub hlf
 obtain⟨_,hos⟩:=AllP_sub hob
 generalize valF o (.mk k n p q s l)=R at *
 have hb : -1125899906842624<=R/\R<=1125899906842624:=by omega
 clear hbnd hi
 unfold aView at *
 have hcb:=fun (x:Pd) (hx:x ∈ l) (h:l.length<=2)=>valF_bounds ps o x (hch x hx).1 (hch x hx).2 (hos x hx) (hci h x hx)
 rcases parts_cases k with ⟨e,hc⟩|⟨e,hc⟩|⟨e,hc⟩|e
 ·obtain rfl:=len0 (l:=l) (by omega)
  simp only[List.map_nil,valN,aPd_mk] at *
  have hk4:k=1\/k=2\/k=3\/k=4:=by omega
  rcases hk4 with h|h|h|h
  ·have hsp:R=n:=by rw[hsp,if_pos h]
   refine PE 81 [.tmp 4] [2,3] func159 ?_;simp only[go_sem]
   repeat(first|((with_reducible refine AWp.ofC ?_ ?_);exact rfl;simp only[go_sem,(eq_true h)])|((with_reducible refine an ?_ ?_);exact Au))
   refine Rq ?_
   rw[hsp]
  ·have lf:=lf2 h
   have h1:¬k=1:=by omega
   rw[if_neg h1,if_pos h] at hsp
   refine PE 81 [.tmp 4] [2,3] func159 ?_;simp only[go_sem]
   repeat(first|((with_reducible refine AWp.ofC ?_ ?_);exact rfl;simp only[go_sem,(eq_true h),h1])|((with_reducible refine an ?_ ?_);exact Au))
   refine Sd ?_
   refine Vu lf ?_
   refine Wk ?_
   refine Rq ?_
   rw[hsp]
  ·obtain⟨p0,pc⟩:=lf3 h
   obtain⟨hpc,hpe⟩:=List.getElem?_eq_some_iff.1 pc
   have hg:=getD_map (f:=ai) hpc
   have h1:¬k=1:=by omega
   have h2:¬k=2:=by omega
   rw[if_neg h1,if_neg h2,if_pos h] at hsp
   rw[hpe] at hg
   refine PE 81 [.tmp 4] [2,3] func159 ?_;simp only[go_sem]
   repeat(first|((with_reducible refine AWp.ofC ?_ ?_);exact rfl;simp only[go_sem,(eq_true h),h1,h2,hg])|((with_reducible refine an ?_ ?_);exact Au))
   refine Rq ?_
   rw[hsp]
  ·have lf:=lf4 h
   have h1:¬k=1:=by omega
   have h2:¬k=2:=by omega
   have h3:¬k=3:=by omega
   rw[if_neg h1,if_neg h2,if_neg h3] at hsp
   refine PE 81 [.tmp 4] [2,3] func159 ?_;simp only[go_sem]
   repeat(first|((with_reducible refine AWp.ofC ?_ ?_);exact rfl;simp only[go_sem,(eq_true h),h1,h2,h3])|((with_reducible refine an ?_ ?_);exact Au))
   refine Sd ?_
   refine Vu lf ?_
   refine Wk ?_
   refine Rq ?_
   rw[hsp]
 ·obtain⟨a,rfl⟩:=len1 (l:=l) (by omega)
  have h5:k=5:=by omega
  have h1:¬k=1:=by omega
  have h2:¬k=2:=by omega
  have h3:¬k=3:=by omega
  have h4:¬k=4:=by omega
  obtain⟨c1,c2⟩:=hch a (by simp)
  have hza:=szL_mem (l:=[a]) (x:=a) (by simp)
  have hca:=ih a (by simp) (by omega) c1 c2 (hci (by simp) a (by simp)) (hos a (by simp)) (hls a (by simp))
  have hcb:=hcb a (by simp) (by simp)
  simp only[List.map_cons,List.map_nil,valN] at hsp
  generalize valF o a=A at *
  obtain⟨ka,na,pa,qa,sa,la⟩:=a
  simp only[aPd_mk,List.map_cons,List.map_nil] at *
  refine PE 81 [.tmp 4] [2,3] func159 ?_;simp only[go_sem]
  repeat(first|((with_reducible refine AWp.ofC ?_ ?_);exact rfl;simp only[go_sem,(eq_true h5),h1,h2,h3,h4])|((with_reducible refine an ?_ ?_);exact Au))
  refine Sq ?_
  refine AWp.mix mixed [0,1,2,3,4,5,6,7] .done (by kernel_rfl) ?_;simp only[go_sem]
  refine Sd ?_
  refine Gc hca ?_
  refine Sd ?_
  refine Wk ?_
  refine Rq ?_
  rw[hsp]
 ·obtain⟨a,b,rfl⟩:=len2 (l:=l) (by omega)
  have h1:¬k=1:=by omega
  have h2:¬k=2:=by omega
  have h3:¬k=3:=by omega
  have h4:¬k=4:=by omega
  have h5:¬k=5:=by omega
  obtain⟨c1,c2⟩:=hch a (by simp)
  obtain⟨c3,c4⟩:=hch b (by simp)
  have hza:=szL_mem (l:=[a,b]) (x:=a) (by simp)
  have hzb:=szL_mem (l:=[a,b]) (x:=b) (by simp)
  have hca:=ih a (by simp) (by omega) c1 c2 (hci (by simp) a (by simp)) (hos a (by simp)) (hls a (by simp))
  have hcc:=ih b (by simp) (by omega) c3 c4 (hci (by simp) b (by simp)) (hos b (by simp)) (hls b (by simp))
  have hcba:=hcb a (by simp) (by simp)
  have hcbb:=hcb b (by simp) (by simp)
  simp only[List.map_cons,List.map_nil,valN] at hsp
  have hmw:=fun h=>mulW_eq (a:=valF o a) (b:=valF o b) h
  generalize valF o a=A at *
  generalize valF o b=B at *
  obtain⟨ka,na,pa,qa,sa,la⟩:=a
  obtain⟨kb,nb,pb,qb,sb,lb⟩:=b
  simp only[aPd_mk,List.map_cons,List.map_nil] at *
  refine PE 81 [.tmp 4] [2,3] func159 ?_;simp only[go_sem]
  by_cases h6:k=6
  ·rw[if_pos h6] at hsp
   repeat(first|((with_reducible refine AWp.ofC ?_ ?_);exact rfl;simp only[go_sem,(eq_true h6),h1,h2,h3,h4,h5])|((with_reducible refine an ?_ ?_);exact Au))
   refine Sq ?_
   refine AWp.mix mixed [0,1,2,3,4,5,6,7,8,9,10,11,12,13] .done (by kernel_rfl) ?_;simp only[go_sem]
   refine Sd ?_
   refine Gc hca ?_
   refine Sd ?_
   refine Gc hcc ?_
   refine Sd ?_
   refine Wk ?_
   refine Rq ?_
   rw[hsp]
  by_cases h7:k=7
  ·rw[if_neg h6,if_pos h7] at hsp
   repeat(first|((with_reducible refine AWp.ofC ?_ ?_);exact rfl;simp only[go_sem,(eq_true h7),h1,h2,h3,h4,h5,h6])|((with_reducible refine an ?_ ?_);exact Au))
   refine Sq ?_
   refine AWp.mix mixed [0,1,2,3,4,5,6,7,8,9,10,11,12,13] .done (by kernel_rfl) ?_;simp only[go_sem]
   refine Sd ?_
   refine Gc hca ?_
   refine Sd ?_
   refine Gc hcc ?_
   refine Sd ?_
   refine Wk ?_
   refine Rq ?_
   rw[hsp]
  rw[if_neg h6,if_neg h7] at hsp
  have hmw:=hmw (by rw[<- hsp];unfold I64;omega)
  repeat(first|((with_reducible refine AWp.ofC ?_ ?_);exact rfl;simp only[go_sem,h1,h2,h3,h4,h5,h6,h7])|((with_reducible refine an ?_ ?_);exact Au))
  refine AWp.seq ?_
  refine Sq ?_
  refine AWp.mix mixed [0,1,2,3,4,5,6,7,8,9,10,11,12,13] .done (by kernel_rfl) ?_;simp only[go_sem]
  refine Sd ?_
  refine Gc hca ?_
  refine Sd ?_
  refine Gc hcc ?_
  refine Sd ?_
  refine W1 hmw ?_
  refine Rq ?_
  rw[hsp]
 ·omega
theorem variable_values (x:Pr)(h1:x.vars.length<=1000000)(h2:x.evs.length<=1000000)(h3:∀e ∈ x.evs,e.asg.length<=1000000)(ha:AsgOk x)(v:Nat)(hv:v<x.vars.length) :
  PC prog 269 [aPr x,ai v] (aInts (valsF x v)):=by
 have hst:=variable_states x
 have hvl:=valsF_length x v
 refine PE 20 [.tmp 4] [2,3,17] func269 ?_;simp only[go_sem]
 refine Wk ?_
 intro b5
 refine Sd ?_
 refine Ao ?_
 refine Sd ?_
 refine Vu hst ?_
 refine AWp.block (AWp.rangeFunc rfl [3,5] (stArgs x) (fun j L=>∃w Lw,L=Lw ++ [(b5,.row 95 1 [w] 1)]/\AppSt 3 1 (((valsF x v).take j).map ai) w Lw/\∀p ∈ Lw,p.1 ≠ b5) (fun _ _=>False)
  rfl (variable_states1 x h1 h2 h3 ha) (fun y hy=>by obtain⟨j,hj⟩:=List.getElem?_of_mem hy;unfold stArgs at hj;rw[List.getElem?_map,Option.map_eq_some_iff] at hj;obtain⟨_,_,rfl⟩:=hj;rfl) ⟨anil,[],rfl,.nil,by simp⟩ ?_ ?_ ?_)
 ·rintro j y L' l hy ⟨w,Lw,rfl,hA,hne⟩
  have hjl:j<=x.evs.length:=by
   have:=(List.getElem?_eq_some_iff.1 hy).1
   unfold stArgs at this;simp at this;omega
  rw[stArgs_get x j hjl] at hy
  cases hy
  have hvs:v<(stateAt x j).length:=by rw[stateAt_length];exact hv
  have hgs:=getD_map (f:=ai) hvs
  have hjv:j<(valsF x v).length:=by omega
  have hsu:((valsF x v).take (j+1)).map ai=((valsF x v).take j).map ai ++ [ai (stateAt x j)[v]]:=by
   rw[List.take_succ_eq_append_getElem hjv,List.map_append,valsF_get,List.getD_eq_getElem?_getD,List.getElem?_eq_getElem hvs];rfl
  have hyl:(((valsF x v).take j).map ai).length<=1000000:=by rw[List.length_map,List.length_take];omega
  rw[hsu]
  generalize ((valsF x v).take j).map ai=ys at *
  rcases hA.inv with ⟨e1,rfl,rfl⟩|⟨b,cap,rfl,rfl⟩
  ·simp only[go_sem]
   refine Sd ?_
   refine Ao ?_
   refine AWp.block ?_
   refine Sq ?_
   refine AWp.mix mixed [1,2,3,4] (.step 0 (.step 5 (.step 6 (.step 7 .done .done) .done) .done) (.step 5 (.step 0 (.step 6 (.step 7 .done .done) .done) .done) .done)) (by kernel_rfl) ?_;simp only[go_sem,hgs]
   refine Sd ?_
   intro b' cap' hlt _
   have n5:¬b5=b':=by omega
   simp only[go_sem,n5]
   refine Sd ?_
   refine⟨_,.refl _,_,[(b',.row 3 1 [_] cap')],rfl,?_,?_⟩
   ·rw[e1];exact .row _ [_] _
   ·intro p hp;simp only[List.mem_singleton] at hp;subst hp;exact fun e=>n5 e.symm
  ·have n1:¬b=b5:=hne (b,_) List.mem_cons_self
   have n2:¬b5=b:=fun e=>n1 e.symm
   simp only[go_sem]
   refine Sd ?_
   refine AWp.of ?_;simp only[go_sem,n1,n2]
   refine AWp.block ?_
   refine Sq ?_
   refine AWp.mix mixed [1,2,3,4] (.step 0 (.step 5 (.step 6 (.step 7 .done .done) .done) .done) (.step 5 (.step 0 (.step 6 (.step 7 .done .done) .done) .done) .done)) (by kernel_rfl) ?_;simp only[go_sem,hgs,n1,n2]
   refine Sd ?_
   intro b' cap' n5 _
   simp only[go_sem,n5]
   refine Sd ?_
   refine⟨_,.refl _,_,[(b',.row 3 1 (ys ++ [_]) cap')],rfl,?_,?_⟩
   ·have:=AppSt.row (t:=3) (k:=1) b' (ys ++ [ai (stateAt x j)[v]]) cap'
    simpa using this
   ·intro p hp;simp only[List.mem_singleton] at hp;subst hp;exact fun e=>n5 e.symm
 ·rintro L' ⟨w,Lw,rfl,hA,hne⟩
  have hl:(stArgs x).length=x.evs.length+1:=by unfold stArgs;simp
  rw[hl,<- hvl,List.take_length] at hA
  rcases hA.inv with ⟨e1,rfl,rfl⟩|⟨b,cap,rfl,rfl⟩
  ·exfalso
   have:=congrArg List.length e1
   rw[List.length_map,hvl] at this
   cases this
  ·have n1:¬b=b5:=hne (b,_) List.mem_cons_self
   have n2:¬b5=b:=fun e=>n1 e.symm
   simp only[go_sem]
   refine W2 n1 n2 ?_
   refine ret_view [true] ?_;simp only[go_sem]
   exact Vw.ofLs (if_pos rfl) (by simp)
 ·rintro e L' h
  exact h.elim
theorem variable_index1 (v:ByteArray × Int)(s:ByteArray):PC prog 278 [aVar v,.rp 1 [astr s] 0 0] (ab (nmB s v)):=by
 generalize hb:nmB s v=b
 refine PE 8 [.tmp 3] [2] func278 ?_;simp only[go_sem]
 refine Wk ?_
 refine Rq ?_
 rw[<- hb];rfl
theorem variable_index (x:Pr)(h1:x.vars.length<=1000000)(s:ByteArray):PC prog 276 [aPr x,astr s] (ai (varIx x.vars s)):=by
 have hfi:PC prog 233 [aVars x.vars,.clo 278 [.rp 1 [astr s] 0 0]] (ai (varIx x.vars s)) :=
  vars_indexFunc x.vars h1 (.clo 278 [.rp 1 [astr s] 0 0]) rfl (nmB s) fun v _=>(variable_index1 v s).clo
 generalize varIx x.vars s=r at *
 refine PE 9 [.tmp 4] [2,3] func276 ?_;simp only[go_sem]
 refine Wk ?_
 refine Sd ?_
 refine Vu hfi ?_
 refine Wk ?_
 exact Rz
theorem variable_find (ps:List Pr)(hs:Sm ps)(hv:validF ps=true)(p:Nat)(hp:p<ps.length)(s:ByteArray)(hk:¬varIx ps[p].vars s<0):PC prog 268 [aTr ps,ai p,astr s] (.tup [ai (varIx ps[p].vars s),ai 0]):=by
 have hval:=trace_Valid ps hs
 rw[hv] at hval
 have hm:=List.getElem_mem hp
 have hgp:=getD_map (f:=aPr) hp
 have hix:=variable_index ps[p] (hs.vars _ hm) s
 generalize varIx ps[p].vars s=r at *
 refine PE 33 [.tmp 6,.tmp 7] [3] func268 ?_;simp only[go_sem]
 refine Wk ?_
 refine Sd ?_
 refine Vu hval ?_
 have h2:¬((p:Int)<0):=by omega
 have h3:¬((ps.length:Int)<=p):=by omega
 refine W3 h2 h3 hgp ?_
 refine Sd ?_
 refine(hix).val.use ?_;simp only[go_sem,hgp]
 refine W1 hk ?_
 exact Rz
theorem variable_Range (ps:List Pr)(hs:Sm ps)(hv:validF ps=true)(p:Int)(hpb:isPB ps.length p=true)(s:ByteArray)(hkn:knownB ps p s=true) :
  PC prog 249 [aTr ps,ai p,astr s] (.tup [ai (varLo ps p s),ai (varHi ps p s),ai 0]):=by
 obtain⟨p,rfl,hp⟩:=isPB_nat hpb
 have hm:=List.getElem_mem hp
 have hgp:=getD_map (f:=aPr) hp
 have hk:ps[p].vars.any (nmB s)=true:=by unfold knownB at hkn;simpa only [Int.toNat_natCast,List.getElem?_eq_getElem hp] using hkn
 have hng:¬varIx ps[p].vars s<0:=fun h=>by rw[(varIx_neg _ _).1 h] at hk;cases hk
 have hfd:=variable_find ps hs hv p hp s hng
 have hlt:(varIx ps[p].vars s).toNat<ps[p].vars.length:=by
  unfold varIx at hng ⊢
  cases hf:ps[p].vars.findIdx? (nmB s) with
  | none=>rw[hf] at hng;exact absurd (by decide) hng
  | some i=>rw[List.findIdx?_eq_some_iff_getElem] at hf;obtain⟨hi,_⟩:=hf;exact hi
 have hvals:=variable_values ps[p] (hs.vars _ hm) (hs.evs _ hm) (hs.asg _ hm) (asg_of_valid hv p hp) _ hlt
 have hvl:=valsF_length ps[p] (varIx ps[p].vars s).toNat
 have hel:=hs.evs _ hm
 have hmn:=ints_minL (valsF ps[p] (varIx ps[p].vars s).toNat) (by omega) (by omega)
 have hmx:=ints_maxL (valsF ps[p] (varIx ps[p].vars s).toNat) (by omega) (by omega)
 have e1:varLo ps p s=minL (valsF ps[p] (varIx ps[p].vars s).toNat):=by unfold varLo;simp only[Int.toNat_natCast,List.getElem?_eq_getElem hp]
 have e2:varHi ps p s=maxL (valsF ps[p] (varIx ps[p].vars s).toNat):=by unfold varHi;simp only[Int.toNat_natCast,List.getElem?_eq_getElem hp]
 rw[e1,e2]
 have hix:((varIx ps[p].vars s).toNat:Int)=varIx ps[p].vars s:=by omega
 rw[hix] at hvals
 generalize minL (valsF ps[p] (varIx ps[p].vars s).toNat)=lo at *
 generalize maxL (valsF ps[p] (varIx ps[p].vars s).toNat)=hi at *
 generalize valsF ps[p] (varIx ps[p].vars s).toNat=vl at *
 generalize varIx ps[p].vars s=ix at *
 refine PE 32 [.tmp 6,.tmp 7,.tmp 8] [3] func249 ?_;simp only[go_sem]
 refine Wk ?_
 refine Sd ?_
 refine Vu hfd ?_
 refine W1 hgp ?_
 refine Sd ?_
 refine(hvals).val.use ?_;simp only[go_sem,hgp]
 refine Wk ?_
 refine Sd ?_
 refine Vu hmn ?_
 refine Wk ?_
 refine Sd ?_
 refine Vu hmx ?_
 refine Wk ?_
 exact Rz
theorem predtype_great (a b:Int):PC prog 225 [aIv a b] (ab (tooB a b)):=by
 generalize hb:tooB a b=r
 unfold aIv
 refine PE 11 [.tmp 2] [1] func225 ?_;simp only[go_sem]
 refine Wk ?_
 refine Rq ?_
 rw[<- hb];rfl
theorem res_leaf {ps:List Pr}{k n p q:Int}{s:ByteArray}{l:List Pd}(h:resB ps (.mk k n p q s l)=true):(k=2->isPB ps.length p=true/\knownB ps p s=true)/\(k=3->isPB ps.length p=true)/\(k=4->isPB ps.length p=true/\isPB ps.length q=true/\p ≠ q):=by
 simp only[resB] at h
 refine⟨fun e=>?_,fun e=>?_,fun e=>?_⟩
 ·rw[if_pos e] at h;simp only[Bool.and_eq_true] at h;exact⟨h.1.1,h.2⟩
 ·rw[if_neg (by omega),if_pos e] at h;simp only[Bool.and_eq_true] at h;exact h.1.1
 ·rw[if_neg (by omega),if_neg (by omega),if_pos e] at h;simp only[Bool.and_eq_true,Bool.not_eq_true',decide_eq_false_iff_not] at h;exact⟨h.1.1.1,h.1.1.2,h.1.2⟩
theorem predtype_leaf (ps:List Pr)(hs:Sm ps)(hv:validF ps=true)(k n p q:Int)(s:ByteArray)(hk:1<=k/\k<=4)(hr:resB ps (.mk k n p q s [])=true) :
  PC prog 224 [aTr ps,aPd (.mk k n p q s [])] (aIv (bdL ps k n p q s).1 (bdL ps k n p q s).2):=by
 obtain⟨r2,r3,r4⟩:=res_leaf hr
 have hsp:bdL ps k n p q s=if k=1 then (n,n) else if k=3 then (0,evN ps p) else if k=4 then (0,msgN ps p q) else (varLo ps p s,varHi ps p s):=rfl
 have hh:=predtype_hull [n] (by simp) (by simp)
 have hms:=fun h=>predtype_messages ps hs p h q
 have hrg:=fun h1 h2=>variable_Range ps hs hv p h1 s h2
 have e1:minL [n]=n:=rfl
 have e2:maxL [n]=n:=rfl
 rw[e1,e2] at hh
 simp only[aInts,List.map_cons,List.map_nil] at hh
 generalize bdL ps k n p q s=i at *
 unfold aIv at *
 have hk4:k=1\/k=3\/k=4\/k=2:=by omega
 rcases hk4 with h|h|h|h
 ·rw[if_pos h] at hsp
  refine PE 49 [.cell 4 241] [2,3,14] func224 ?_;simp only[go_sem]
  refine Wk ?_
  intro b4
  repeat(first|((with_reducible refine AWp.ofC ?_ ?_);exact rfl;simp only[go_sem,(eq_true h)])|((with_reducible refine an ?_ ?_);exact Au))
  refine Sd ?_
  refine Vu hh ?_
  refine Wk ?_
  refine Rq ?_
  rw[hsp]
 ·have h1:¬k=1:=by omega
  rw[if_neg h1,if_pos h] at hsp
  obtain⟨p,rfl,hp⟩:=isPB_nat (r3 h)
  have hgp:=getD_map (f:=aPr) hp
  rw[evN_get hp] at hsp
  refine PE 49 [.cell 4 241] [2,3,14] func224 ?_;simp only[go_sem]
  refine Wk ?_
  intro b4
  repeat(first|((with_reducible refine AWp.ofC ?_ ?_);exact rfl;simp only[go_sem,(eq_true h),h1,hgp])|((with_reducible refine an ?_ ?_);exact Au))
  refine Rq ?_
  rw[hsp]
 ·have h1:¬k=1:=by omega
  have h3:¬k=3:=by omega
  rw[if_neg h1,if_neg h3,if_pos h] at hsp
  have hms:=hms (r4 h).1
  refine PE 49 [.cell 4 241] [2,3,14] func224 ?_;simp only[go_sem]
  refine Wk ?_
  intro b4
  repeat(first|((with_reducible refine AWp.ofC ?_ ?_);exact rfl;simp only[go_sem,(eq_true h),h1,h3])|((with_reducible refine an ?_ ?_);exact Au))
  refine Sd ?_
  refine Vu hms ?_
  refine Wk ?_
  refine Rq ?_
  rw[hsp]
 ·have h1:¬k=1:=by omega
  have h3:¬k=3:=by omega
  have h4:¬k=4:=by omega
  rw[if_neg h1,if_neg h3,if_neg h4] at hsp
  have hrg:=hrg (r2 h).1 (r2 h).2
  refine PE 49 [.cell 4 241] [2,3,14] func224 ?_;simp only[go_sem]
  refine Wk ?_
  intro b4
  refine W3 h1 h3 h4 ?_
  refine Sd ?_
  refine Vu hrg ?_
  refine Wk ?_
  refine Rq ?_
  rw[hsp]
set_option maxHeartbeats 4000000 in
theorem predtype_bounds (ps:List Pr)(hs:Sm ps)(hv:validF ps=true)(t:Pd):szF t<=1000000->okT ps t=true->t.kind<=8->PC prog 192 [aTr ps,aPd t] (aBd (intF ps t)):=by
 induction t using Pd.ind with
 | _ k n p q s l ih =>
 intro hz ht hk
 obtain⟨o1,o2,o3,o4⟩:=okT_sub ht
 obtain⟨hpl,_⟩:=loc_len o1
 simp only[Pd.kind] at hk
 have hch:=child_le ht (show k<=12 by omega)
 have hsz:szF (.mk k n p q s l)=szL l+1:=by rw[szF]
 have hll:=szL_len l
 have hsp:=intF_mk ps k n p q s l
 generalize intF ps (.mk k n p q s l)=I at *
 rcases parts_cases k with ⟨e,hc⟩|⟨e,hc⟩|⟨e,hc⟩|e
 ·obtain rfl:=len0 (l:=l) (by omega)
  have hlf:=predtype_leaf ps hs hv k n p q s (by omega) o2
  simp only[List.map_nil,bdN,bdG] at hsp
  have hgr:=predtype_great (bdL ps k n p q s).1 (bdL ps k n p q s).2
  generalize bdL ps k n p q s=i at *
  obtain⟨lo,hi⟩:=i
  unfold aBd aIv at *
  simp only[aPd_mk,List.map_nil] at *
  generalize tooB lo hi=g at *
  refine PE 116 [.cell 4 241,.tmp 5] [2,3,6,7,75] func192 ?_;simp only[go_sem]
  refine Wk ?_
  intro b4
  refine Wk ?_
  constructor<;>intro h0
  ·refine Wk ?_
   refine Sd ?_
   refine Vu hlf ?_
   refine Wk ?_
   intro b6 _
   refine AWp.seq ?_
   refine Sq ?_
   refine AWp.mix mixed [0,1,2,3,5] (.step 4 .done .done) (by kernel_rfl) ?_;simp only[go_sem]
   refine Sd ?_
   refine Gc hgr ?_
   refine Sd ?_
   refine Wk ?_
   refine Rq ?_
   rw[hsp]
  ·exact absurd rfl h0
 ·obtain⟨a,rfl⟩:=len1 (l:=l) (by omega)
  obtain⟨c1,c2⟩:=hch a (by simp)
  have hza:=szL_mem (l:=[a]) (x:=a) (by simp)
  have hca:=ih a (by simp) (by omega) c1 c2
  have hok:=intF_ok ps a
  simp only[List.map_cons,List.map_nil,bdN] at hsp
  generalize intF ps a=A at *
  obtain⟨a1,a2,a3⟩:=A
  obtain⟨ka,na,pa,qa,sa,la⟩:=a
  have k5:k=5:=by omega
  simp only[bd2,if_pos k5,bdG] at hsp
  have hgr:=predtype_great (-a2) (-a1)
  generalize tooB (-a2) (-a1)=g at *
  unfold aBd aIv at *
  simp only[aPd_mk,List.map_cons,List.map_nil] at *
  refine PE 116 [.cell 4 241,.tmp 5] [2,3,6,7,75] func192 ?_;simp only[go_sem]
  refine Wk ?_
  intro b4
  refine Wk ?_
  intro _
  refine AWp.seq ?_
  refine Sq ?_
  refine AWp.mix mixed [0,1,2,3,4,5,6,7,8,11] (.step 9 (.step 10 .done .done) .done) (by kernel_rfl) ?_;simp only[go_sem]
  refine Sd ?_
  refine Gc hca ?_
  refine Sd ?_
  intro b7 h47
  clear ih o4 hch
  refine Wk ?_
  intro b9 h49
  have n1:¬b4=b9:=by omega
  have n2:¬b9=b4:=by omega
  refine W2 n1 n2 ?_
  intro _
  refine W2 n1 n2 ?_
  constructor<;>intro h1
  ·refine W2 n1 n2 ?_
   refine Rq ?_
   simp only[n1,n2,go_sem]
   rw[hsp,if_neg (by rw[h1];decide)]
  rw[if_pos h1] at hsp
  have hok:=hok h1
  refine W2 n1 n2 ?_
  intro b11 m1 m2
  have n3:¬b4=b11:=by omega
  have n4:¬b11=b4:=by omega
  have n5:¬b9=b11:=by omega
  have n6:¬b11=b9:=by omega
  repeat(first|((with_reducible refine AWp.ofC ?_ ?_);exact rfl;simp only[go_sem,(eq_true k5),n1,n2,n3,n4,n5,n6])|((with_reducible refine an ?_ ?_);exact Au))
  refine AWp.view [true] [(11,.rp 2 [.agg [ai (-a2),ai (-a1)]] 0 0)] (LVw.refl _) (fun p hp=>by simp only[List.mem_singleton] at hp;subst hp;exact Vw.ofLp (if_pos rfl)) ?_
  simp only[go_sem]
  refine AWp.seq ?_
  refine Sq ?_
  refine AWp.mix mixed [0,1,2,3,5] (.step 4 .done .done) (by kernel_rfl) ?_;simp only[go_sem,n1,n2]
  refine Sd ?_
  refine GCall.use (ab g) (fun _=>⟨At,(hgr).val.use ⟨rfl,rfl⟩⟩) ?_;simp only[go_sem,n1,n2]
  refine Sd ?_
  refine W2 n1 n2 ?_
  refine Rq ?_
  simp only[n1,n2,go_sem]
  rw[hsp]
 ·obtain⟨a,b,rfl⟩:=len2 (l:=l) (by omega)
  have k5:¬k=5:=by omega
  obtain⟨c1,c2⟩:=hch a (by simp)
  obtain⟨c3,c4⟩:=hch b (by simp)
  have hza:=szL_mem (l:=[a,b]) (x:=a) (by simp)
  have hzb:=szL_mem (l:=[a,b]) (x:=b) (by simp)
  have hca:=ih a (by simp) (by omega) c1 c2
  have hcc:=ih b (by simp) (by omega) c3 c4
  have hoka:=intF_ok ps a
  have hokb:=intF_ok ps b
  simp only[List.map_cons,List.map_nil,bdN] at hsp
  clear ih o4 hch
  generalize intF ps a=A at *
  generalize intF ps b=B at *
  obtain⟨a1,a2,a3⟩:=A
  obtain⟨e1,e2,e3⟩:=B
  obtain⟨ka,na,pa,qa,sa,la⟩:=a
  obtain⟨kb,nb,pb,qb,sb,lb⟩:=b
  unfold aBd aIv at *
  simp only[aPd_mk,List.map_cons,List.map_nil] at *
  refine PE 116 [.cell 4 241,.tmp 5] [2,3,6,7,75] func192 ?_;simp only[go_sem]
  refine Wk ?_
  intro b4
  refine Wk ?_
  intro _
  refine AWp.seq ?_
  refine Sq ?_
  refine AWp.mix mixed [0,1,2,3,4,5,6,7,8,11] (.step 9 (.step 10 .done .done) .done) (by kernel_rfl) ?_;simp only[go_sem]
  refine Sd ?_
  refine Gc hca ?_
  refine Sd ?_
  intro b7 h47
  refine Wk ?_
  intro b9 h49
  have n1:¬b4=b9:=by omega
  have n2:¬b9=b4:=by omega
  refine W2 n1 n2 ?_
  refine⟨fun _=>?_,fun h=>absurd rfl h⟩
  refine Sq ?_
  refine AWp.mix mixed [0,1,2,3,4,5,6,7,8,10] (.step 9 .done .done) (by kernel_rfl) ?_;simp only[go_sem,n1,n2]
  refine Sd ?_
  refine GCall.use (.tup [.agg [ai e1,ai e2],ab e3]) (fun _=>⟨At,(hcc).val.use ⟨rfl,rfl⟩⟩) ?_;simp only[go_sem,n1,n2]
  refine Sd ?_
  refine W2 n1 n2 ?_
  constructor<;>intro h1
  ·refine W2 n1 n2 ?_
   refine Rq ?_
   simp only[n1,n2,go_sem]
   rw[hsp,if_neg (by rintro⟨x1,x2⟩;rw[x1,x2] at h1;simp at h1)]
  intro h2
  rw[if_pos ⟨h1,h2⟩] at hsp
  have hoka:=hoka h1
  have hokb:=hokb h2
  refine W2 n1 n2 ?_
  intro b11 m1 m2
  have n3:¬b4=b11:=by omega
  have n4:¬b11=b4:=by omega
  have n5:¬b9=b11:=by omega
  have n6:¬b11=b9:=by omega
  have fin:∀(lo hi:Int),bd2 k (a1,a2,a3) (e1,e2,e3)=(lo,hi)->I=(lo,hi,!tooB lo hi):=fun lo hi h=>by rw[hsp,h];rfl
  clear hsp
  by_cases k6:k=6
  ·have fin:=fin (a1+e1) (a2+e2) (by unfold bd2;rw[if_neg k5,if_pos k6])
   have hgr:=predtype_great (a1+e1) (a2+e2)
   generalize tooB (a1+e1) (a2+e2)=g at *
   unfold aIv at hgr
   repeat(first|((with_reducible refine AWp.ofC ?_ ?_);exact rfl;simp only[go_sem,(eq_true k6),k5,n1,n2,n3,n4,n5,n6])|((with_reducible refine an ?_ ?_);exact Au))
   refine AWp.view [true] [(11,.rp 2 [.agg [ai (a1+e1),ai (a2+e2)]] 0 0)] (LVw.refl _) (fun p hp=>by simp only[List.mem_singleton] at hp;subst hp;exact Vw.ofLp (if_pos rfl)) ?_
   simp only[go_sem]
   refine AWp.seq ?_
   refine Sq ?_
   refine AWp.mix mixed [0,1,2,3,5] (.step 4 .done .done) (by kernel_rfl) ?_;simp only[go_sem,n1,n2]
   refine Sd ?_
   refine GCall.use (ab g) (fun _=>⟨At,(hgr).val.use ⟨rfl,rfl⟩⟩) ?_;simp only[go_sem,n1,n2]
   refine Sd ?_
   refine W2 n1 n2 ?_
   refine Rq ?_
   simp only[n1,n2,go_sem]
   rw[fin]
  by_cases k7:k=7
  ·have fin:=fin (a1 - e2) (a2 - e1) (by unfold bd2;rw[if_neg k5,if_neg k6,if_pos k7])
   have hgr:=predtype_great (a1 - e2) (a2 - e1)
   generalize tooB (a1 - e2) (a2 - e1)=g at *
   unfold aIv at hgr
   repeat(first|((with_reducible refine AWp.ofC ?_ ?_);exact rfl;simp only[go_sem,(eq_true k7),k5,k6,n1,n2,n3,n4,n5,n6])|((with_reducible refine an ?_ ?_);exact Au))
   refine AWp.view [true] [(11,.rp 2 [.agg [ai (a1 - e2),ai (a2 - e1)]] 0 0)] (LVw.refl _) (fun p hp=>by simp only[List.mem_singleton] at hp;subst hp;exact Vw.ofLp (if_pos rfl)) ?_
   simp only[go_sem]
   refine AWp.seq ?_
   refine Sq ?_
   refine AWp.mix mixed [0,1,2,3,5] (.step 4 .done .done) (by kernel_rfl) ?_;simp only[go_sem,n1,n2]
   refine Sd ?_
   refine GCall.use (ab g) (fun _=>⟨At,(hgr).val.use ⟨rfl,rfl⟩⟩) ?_;simp only[go_sem,n1,n2]
   refine Sd ?_
   refine W2 n1 n2 ?_
   refine Rq ?_
   simp only[n1,n2,go_sem]
   rw[fin]
  have hp1:=predtype_product a1 e1 (by omega) (by omega)
  have hp2:=predtype_product a1 e2 (by omega) (by omega)
  have hp3:=predtype_product a2 e1 (by omega) (by omega)
  have hp4:=predtype_product a2 e2 (by omega) (by omega)
  have fin:=fin _ _ (by unfold bd2;rw[if_neg k5,if_neg k6,if_neg k7])
  dsimp only at fin
  generalize timesF a1 e1=t1 at *
  generalize timesF a1 e2=t2 at *
  generalize timesF a2 e1=t3 at *
  generalize timesF a2 e2=t4 at *
  have hh:=predtype_hull [t1,t2,t3,t4] (by simp) (by simp)
  generalize minL [t1,t2,t3,t4]=lo at *
  generalize maxL [t1,t2,t3,t4]=hi at *
  have hgr:=predtype_great lo hi
  generalize tooB lo hi=g at *
  simp only[aInts,List.map_cons,List.map_nil] at hh
  unfold aIv at hgr hh
  repeat(first|((with_reducible refine AWp.ofC ?_ ?_);exact rfl;simp only[go_sem,k5,k6,k7,n1,n2,n3,n4,n5,n6])|((with_reducible refine an ?_ ?_);exact Au))
  refine AWp.view [false,true] [(9,.rp 2 [.agg [ai e1,ai e2]] 0 0)] (LVw.refl _) (fun p hp=>by simp only[List.mem_singleton] at hp;subst hp;exact Vw.ofLp (if_pos rfl)) ?_
  simp only[go_sem]
  refine Sq ?_
  refine AWp.mix mixed [0,1,2,3,4,5,6,7,8,9,10,11,12,13,14,15,16,17,18,19] (.step 20 (.step 21 (.step 22 .done .done) .done) .done) (by kernel_rfl) ?_;simp only[go_sem,n3,n4]
  refine Sd ?_
  refine GCall.use (ai t1) (fun _=>⟨At,(hp1).val.use ⟨rfl,rfl⟩⟩) ?_;simp only[go_sem,n3,n4]
  refine Sd ?_
  refine GCall.use (ai t2) (fun _=>⟨At,(hp2).val.use ⟨rfl,rfl⟩⟩) ?_;simp only[go_sem,n3,n4]
  refine Sd ?_
  refine GCall.use (ai t3) (fun _=>⟨At,(hp3).val.use ⟨rfl,rfl⟩⟩) ?_;simp only[go_sem,n3,n4]
  refine Sd ?_
  refine GCall.use (ai t4) (fun _=>⟨At,(hp4).val.use ⟨rfl,rfl⟩⟩) ?_;simp only[go_sem,n3,n4]
  refine Sd ?_
  refine Sd ?_
  refine(hh).val.use ?_;simp only[go_sem,n3,n4]
  refine Sd ?_
  refine AWp.view [true] [(11,.rp 2 [.agg [ai lo,ai hi]] 0 0)] (LVw.refl _) (fun p hp=>by simp only[List.mem_singleton] at hp;subst hp;exact Vw.ofLp (if_pos rfl)) ?_
  simp only[go_sem]
  refine AWp.seq ?_
  refine Sq ?_
  refine AWp.mix mixed [0,1,2,3,5] (.step 4 .done .done) (by kernel_rfl) ?_;simp only[go_sem]
  refine Sd ?_
  refine Gc hgr ?_
  refine Sd ?_
  refine Wk ?_
  refine Rq ?_
  rw[fin]
 ·omega
theorem ref25_Value (ps:List Pr)(hs:Sm ps)(p:Nat)(hp:p<ps.length)(v:Nat)(hv:v<ps[p].vars.length)(k:Nat)(hk:k<=ps[p].evs.length)(ha:AsgOk ps[p])(hd:AsgDis ps[p]) :
  PC prog 174 [aTr ps,ai p,ai v,ai k] (ai ((stateAt ps[p] k)[v]'(by rw[stateAt_length];exact hv))):=by
 have hm:=List.getElem_mem hp
 have hel:=hs.evs _ hm
 have hl:=hs.procs
 have hvl:=hs.vars _ hm
 have hgP:=getD_map (f:=aPr) hp
 have hgv:=getD_map (f:=aVar) hv
 have hst:∀j,v<(stateAt ps[p] j).length:=fun j=>by rw[stateAt_length];exact hv
 generalize hR:(stateAt ps[p] k)[v]'(hst k)=R at *
 refine PE 56 [.tmp 8] [4] func174 ?_;simp only[go_sem]
 refine Wk ?_
 refine AWp.block (AWp.loopN [9] [1,2,4] (fun m vs L=>L=[]/\m<=k/\vs=[ai ((m:Int) - 1)]/\(stateAt ps[p] m)[v]'(hst m)=R) k ⟨rfl,by omega,rfl,hR⟩ ?_)
 rintro m vs L - ⟨rfl,hmk,rfl,hmR⟩
 simp only[go_sem]
 refine Wk ?_
 constructor<;>intro h1
 ·obtain⟨i,rfl⟩:∃i,m=i+1:=⟨m - 1,by omega⟩
  have hi:i<ps[p].evs.length:=by omega
  have hie:(((i+1:Nat):Int) - 1).toNat=i:=by omega
  have hin:((i+1:Nat):Int) - 1=(i:Int):=by omega
  have hge:=getD_map (f:=aEv) hi
  have hal:=hs.asg _ hm _ (List.getElem_mem hi)
  have hao:∀a ∈ ps[p].evs[i].asg,0<=a.1:=fun a h=>(ha _ (List.getElem_mem hi) a h).1
  have hdi:=hd _ (List.getElem_mem hi)
  have hsu:=stateAt_succ ps[p] i hi
  have hmR':(assignL (stateAt ps[p] i) ps[p].evs[i].asg)[v]?=some R:=by rw[<- hsu,List.getElem?_eq_getElem (hst _),hmR]
  have hhit:=assignL_hit (v:=v) ps[p].evs[i].asg (stateAt ps[p] i) (hst i) hao hdi
  have hnone:=assignL_none (v:=v) ps[p].evs[i].asg (stateAt ps[p] i)
  rw[hin]
  refine W2 hgP hge ?_
  refine AWp.block (AWp.count 11 ps[p].evs[i].asg.length [] [1,2,4,9,10] (fun j vs L=>L=[]/\∀b (hb:b<ps[p].evs[i].asg.length),b<j->ps[p].evs[i].asg[b].1 ≠ v) rfl rfl ⟨rfl,by omega⟩ ?_)
  rintro j vs L hj - ⟨rfl,hJ⟩
  simp only[go_sem]
  refine Wk ?_
  constructor<;>intro h2
  ·have hjl:j<ps[p].evs[i].asg.length:=by omega
   have hga:=getD_map (f:=aAsg) hjl
   refine W1 hga ?_
   constructor<;>intro h3
   ·refine W1 hga ?_
    refine Rq ?_
    have:=hhit j hjl h3
    rw[this] at hmR'
    cases hmR';rfl
   ·refine Wk ?_
    refine⟨_,.refl _,rfl,fun b hb hbj=>?_⟩
    by_cases e:b=j
    ·subst e;exact h3
    ·exact hJ b hb (by omega)
  ·refine Wk ?_
   have hno:=hnone fun a haa=>by
    obtain⟨b,hb,rfl⟩:=List.getElem_of_mem haa
    exact⟨hao _ haa,hJ b hb (by omega)⟩
   rw[hno] at hmR'
   rw[List.getElem?_eq_getElem (hst i)] at hmR'
   refine⟨_,.refl _,i,by omega,rfl,by omega,rfl,by simpa using hmR'⟩
 ·have e:m=0:=by omega
  subst e
  have h0:(stateAt ps[p] 0)[v]'(hst 0)=ps[p].vars[v].2:=by simp [stateAt]
  rw[h0] at hmR
  refine W2 hgP hgv ?_
  refine Rq ?_
  rw[<- hmR]
end Go.AL
end
