/- Texts of this claim's proof: WU1, WV10, WU3, WU4, WU5, WU6, WV8, WV11, WV12, WV13, WV15, WCs, WV16, WQp, WU7, WU8, WPw3, WV17, WXm, WXs, WV18, WV9, WV14, WXr, WV20, WV21, WV22, WV23, WV24, WU9, WU10, WU12, WU13, WQe, WXg, WU14, WV25, WV27, WY3. No condition. -/
import Derived.Test.YtbegiibjiidkmaaGreatDoorM7
import Derived.Test.YtbegiibjiidkmaaGreatDoorM12
import Derived.Test.YtbegiibjiidkmaaGreatDoorM13
import Derived.Test.YtbegiibjiidkmaaGreatDoorM10
import Derived.Test.YtbegiibjiidkmaaGreatDoorM6
import Derived.Test.YtbegiibjiidkmaaGreatDoorM9
import Derived.Test.YtbegiibjiidkmaaGreatDoorM11
section
namespace Go.AL
open Go Go.RowKit Proofs.Tryz
set_option maxRecDepth 4000
theorem events_indexFuncB (l:List Ev)(hl:l.length<=9223372036854775807)(g:AV)(hgf:fo g=(True,g))(p:Ev->Bool)(hg:∀x ∈ l,PV prog g [aEv x] (ab (p x))) :
  PC prog 59 [aEvs l,g] (ai (match l.findIdx? p with|some i=>(i:Int)|none=>-1)):=by
 refine PE 19 [.tmp 4] [] func59 ?_;simp only[go_sem]
 refine Sd ?_
 refine AWp.of ?_;simp only[go_sem,aEvs]
 refine AWp.range1' l.length [] [0,1,7] (fun k vs L=>L=[]/\∀i (h:i<l.length),i<k->p l[i]=false) (by omega) rfl rfl rfl ⟨rfl,by omega⟩ ?_ ?_
 ·rintro k vs L' hk hvs ⟨rfl,hI⟩
  simp only[go_sem]
  refine Sd ?_
  refine Ao ?_
  have hgk:=hg l[k] (List.getElem_mem hk)
  try simp only[go_sem,aEv] at hgk
  refine Sd ?_
  refine AWp.of ?_;simp only[go_sem,getD_map hk,hgf,aEv]
  refine⟨⟨by omega,by omega⟩,hk,hgk.use (AWp.of ?_)⟩;simp only[go_sem]
  refine⟨fun ht=>?_,fun hf=>?_⟩
  ·refine Sd ?_
   refine Ao ?_
   refine Rq ?_
   have:l.findIdx? p=some k:=by rw[List.findIdx?_eq_some_iff_getElem];exact⟨hk,ht,fun j hj=>by simpa using hI j (by omega) hj⟩
   rw[this]
  ·refine⟨[],List.Sublist.refl _,rfl,fun i h hi=>?_⟩
   by_cases e:i=k
   ·subst e;exact hf
   ·exact hI i h (by omega)
 ·rintro vs L' hvs ⟨rfl,hI⟩
  simp only[go_sem]
  refine Sd ?_
  refine Ao ?_
  refine Sd ?_
  refine Ao ?_
  refine Rq ?_
  have:l.findIdx? p=none:=by rw[List.findIdx?_eq_none_iff];intro x hx;obtain⟨i,hi,rfl⟩:=List.getElem_of_mem hx;exact hI i hi hi
  rw[this]
theorem events_containsFuncB (l:List Ev)(hl:l.length<=9223372036854775807)(g:AV)(hgf:fo g=(True,g))(p:Ev->Bool)(hg:∀x ∈ l,PV prog g [aEv x] (ab (p x))) :
  PC prog 24 [aEvs l,g] (ab (l.any p)):=by
 refine PE 9 [.tmp 4] [] func24 ?_;simp only[go_sem]
 refine Sd ?_
 refine AWp.of ?_;simp only[go_sem,hgf,aEvs]
 refine(events_indexFuncB l hl g hgf p hg).val.use ?_
 simp only[go_sem]
 refine Sd ?_
 refine Ao ?_
 refine Rq ?_
 congr 2;exact findIdx_any l p
theorem trace_FaultB (ps:List Pr)(hs:Smh ps)(hb:∃p,p<ps.length/\procF ps p ≠ 0):PC prog 119 [aTr ps] (aFault (faultF ps)):=by
 have hl:=hs.procs
 refine PE 66 [.cell 2 53,.cell 3 37] [1,6,7,10,12] func119 ?_;simp only[go_sem]
 intro b2
 intro b3 h3
 have n23:¬b2=b3:=by omega
 refine Sd ?_
 refine AWp.of ?_;simp only[go_sem,n23]
 refine Sd ?_
 refine(trace_in _ _ _).val.use ?_;simp only[go_sem]
 refine W1 n23 ?_
 constructor<;>intro h1
 ·refine W1 n23 ?_
  have hf:faultF ps=((0,0),1):=by unfold faultF;rw[if_pos (by simp [h1])]
  rw[hf]
  refine ret_eq ?_
  simp only[go_sem,n23]
 ·refine Wk ?_
  refine AWp.range' ps.length [] [1,2,3,22] (fun k vs L=>L=[(b3,.row 37 1 [ai 0] 1),(b2,.row 53 2 [aEid (0,0)] 1)]/\∀j,j<k->procF ps j=0) (by omega) rfl rfl rfl ⟨rfl,by omega⟩ ?_ ?_
  ·rintro k vs L' hk - ⟨rfl,hI⟩
   simp only[go_sem]
   refine Sd ?_
   refine Ao ?_
   refine Wk ?_
   refine Sd ?_
   refine(trace_processFaultH ps hs k hk).val.use ?_;simp only[go_sem]
   refine W1 n23 ?_
   constructor<;>intro h2
   ·refine W1 n23 ?_
    have hf:faultF ps=(((k:Int),0),procF ps k):=by unfold faultF;rw[if_neg (by simp [h1]),procFirst_hit hk hI h2]
    rw[hf]
    refine ret_eq ?_
    simp only[go_sem,n23]
   ·refine⟨_,.refl _,rfl,fun j hj=>?_⟩
    by_cases e:j=k
    ·rw[e];exact h2
    ·exact hI j (by omega)
  ·rintro vs L' - ⟨rfl,hI⟩
   obtain⟨p,hp,h⟩:=hb
   exact absurd (hI p hp) h
theorem ref12_FaultB (ps:List Pr)(hs:Smh ps)(hb:∃p,p<ps.length/\procF ps p ≠ 0):PC prog 31 [aTr ps] (aFault (faultF ps)):=by
 have hl:=hs.procs
 refine PE 137 [.cell 2 53,.tmp 3] [1,11,15] func31 ?_;simp only[go_sem]
 intro b2
 refine Wk ?_
 refine Wk ?_
 constructor<;>intro h1
 ·refine Wk ?_
  have hf:faultF ps=((0,0),1):=by
   unfold faultF
   rw[if_pos]
   unfold inI
   rw[Bool.not_eq_true',<- Bool.not_eq_true,Bool.and_eq_true,decide_eq_true_eq,decide_eq_true_eq]
   omega
  rw[hf]
  refine ret_eq ?_
  simp only[go_sem]
 ·intro h1'
  have hin:¬((!inI ps.length 1 8)=true):=by
   unfold inI
   rw[Bool.not_eq_true',<- Bool.not_eq_true,Bool.and_eq_true,decide_eq_true_eq,decide_eq_true_eq]
   omega
  refine Wk ?_
  refine AWp.block (AWp.count 4 ps.length [] [1,2] (fun k vs L=>L=[(b2,.row 53 2 [aEid (0,0)] 1)]/\∀j,j<k->procF ps j=0) rfl rfl ⟨by simp [aEid],by omega⟩ ?_)
  rintro k vs L hk - ⟨rfl,hI⟩
  simp only[go_sem]
  refine Wk ?_
  constructor<;>intro h2
  ·have hkp:k<ps.length:=by omega
   refine Wk ?_
   refine Sd ?_
   refine(ref12_headH ps hs k hkp).val.use ?_;simp only[go_sem]
   refine Wk ?_
   constructor<;>intro h3
   ·refine Wk ?_
    have hf:faultF ps=(((k:Int),0),procF ps k):=by unfold faultF;rw[if_neg hin,procFirst_hit hkp hI h3]
    rw[hf]
    refine ret_eq ?_
    simp only[go_sem]
   ·refine Wk ?_
    refine⟨_,.refl _,rfl,fun j hj=>?_⟩
    by_cases e:j=k
    ·rw[e];exact h3
    ·exact hI j (by omega)
  ·obtain⟨p,hp,h⟩:=hb
   exact absurd (hI p (by omega)) h
theorem procF_evs {ps:List Pr}{p:Nat}(hp:p<ps.length)(h:64<ps[p].evs.length):procF ps p ≠ 0:=by
 have hpf:procF ps p=if !nameOk ps[p].name || (ps.take p).any (fun y=>decide (y.name=ps[p].name)) then 13 else if 8<ps[p].vars.length then 5 else
   if fstF (varF ps[p].vars) ps[p].vars.length ≠ 0 then fstF (varF ps[p].vars) ps[p].vars.length else if 64<ps[p].evs.length then 5 else 0:=by
  unfold procF;rw[List.getElem?_eq_getElem hp]
 rw[hpf]
 split
 ·decide
 ·split
  ·decide
  ·split
   ·assumption
   ·first|decide|(rw[if_pos h];decide)
theorem valid_bad {ps:List Pr}(hb:∃p,p<ps.length/\procF ps p ≠ 0):validF ps=false:=by
 cases hv:validF ps with
 | false=>rfl
 | true =>
  obtain⟨p,hp,h⟩:=hb
  exact absurd (procF_of_valid hv hp) h
theorem trace_ValidB (ps:List Pr)(hs:Smh ps)(hb:∃p,p<ps.length/\procF ps p ≠ 0):PC prog 71 [aTr ps] (ab (validF ps)):=by
 refine PE 12 [.tmp 2] [1,3] func71 ?_;simp only[go_sem]
 refine Wk ?_
 refine Sd ?_
 refine(trace_FaultB ps hs hb).val.use ?_;simp only[go_sem]
 refine Sd ?_
 intros
 refine Ao ?_
 refine Wk ?_
 refine Rq ?_
 rfl
theorem ref12_ValidB (ps:List Pr)(hs:Smh ps)(hb:∃p,p<ps.length/\procF ps p ≠ 0):PC prog 10 [aTr ps] (ab (validF ps)):=by
 refine PE 12 [.tmp 2] [1,3] func10 ?_;simp only[go_sem]
 refine Wk ?_
 refine Sd ?_
 refine(ref12_FaultB ps hs hb).val.use ?_;simp only[go_sem]
 refine Sd ?_
 intros
 refine Ao ?_
 refine Wk ?_
 refine Rq ?_
 rfl
theorem chn_iff {ps:List Pr} : ∀ {r:List (List Int)} {a:List Int},chnF ps a r=true↔∀j (h:j<r.length),isF ps r[j]=true/\0<=stepF ((a :: r)[j]'(by rw[List.length_cons];omega)) r[j]
 | [],a=>⟨fun _ j h=>absurd h (by simp),fun _=>rfl⟩
 | b :: r,a=>by
  have e:chnF ps a (b :: r)=((isF ps b && decide (0<=stepF a b)) && chnF ps b r):=rfl
  rw[e,Bool.and_eq_true,Bool.and_eq_true,decide_eq_true_eq,chn_iff]
  constructor
  ·rintro⟨h1,h2⟩ j hj
   cases j with
   | zero=>exact h1
   | succ j=>exact h2 j (by simpa using hj)
  ·intro h
   exact⟨h 0 (by simp),fun j hj=>h (j+1) (by simpa using hj)⟩
theorem valid_off {ps:List Pr}(hv:validF ps=true):off ps ps.length<=512:=by
 have h:∀k,k<=ps.length->off ps k<=64 * k:=fun k=>by
  induction k with
  | zero=>intro _;simp [off]
  | succ k ih =>
   intro hk
   have h1:=off_succ (show k<ps.length by omega)
   have h2:=ih (by omega)
   have h3:ps[k].evs.length<=64:=by
    apply Classical.byContradiction
    intro h4
    exact procF_evs (show k<ps.length by omega) (by omega) (procF_of_valid hv (by omega))
   omega
 have:=h ps.length (Nat.le_refl _)
 have:=(valid_len hv).2
 omega
theorem MCalls.toS {P:Program}{f:FuncId}{args:List AV}{K:AV->AHeap->Prop}{S:AV->Prop}(h:MCalls P f args [] K)(hv:∀r L,K r L->∃r0,Vw L r r0/\S r0):MCalls P f args [] fun r L=>L=[]/\S r :=
 ⟨h.1,fun n w A vs hL hr=>(h.2 n w A vs hL hr).mono fun e w' ⟨v,r,L',A',he,hK,hf,hA,hL',hk,hr'⟩=>by
  obtain⟨r',hvw,hS⟩:=hv r L' hK
  exact⟨v,r',[],fun b=>A' b\/keysOf L' b,he,⟨rfl,hS⟩,hf,fun b hb=>hb.elim (hA b) (fun ⟨x,hx,e⟩=>by subst e;exact(hk x hx).elim (fun ⟨y,hy,_⟩=>by cases hy) (fun h=>.inr (.inr h))),hL'.viewed (Lf:=L') (Lk:=[]) (by simp) .nil,(by intro x hx;cases hx),hL'.view (Lf:=L') (Lk:=[]) (by simp) hvw hr'⟩⟩
def mixJ (J c:List Int)(i:Nat):List Int:=J.take i ++ c.drop i
theorem mixJ_len {J c:List Int}(h:J.length=c.length){i:Nat}(hi:i<=c.length):(mixJ J c i).length=c.length:=by unfold mixJ;rw[List.length_append,List.length_take,List.length_drop];omega
theorem mixJ_get {J c:List Int}(h:J.length=c.length){i:Nat}(hi:i<c.length):(mixJ J c i)[i]'(by rw[mixJ_len h (by omega)];exact hi)=c[i]:=by
 unfold mixJ
 rw[List.getElem_append_right (by rw[List.length_take];omega),List.getElem_drop]
 congr 1
 rw[List.length_take];omega
theorem mixJ_set {J c:List Int}(h:J.length=c.length){i:Nat}(hi:i<c.length):(mixJ J c i).set i (J[i]'(by omega))=mixJ J c (i+1):=by
 unfold mixJ
 rw[List.set_append_right _ _ (by rw[List.length_take];omega),List.length_take,show i - min i J.length=0 by omega,<- List.getElem_cons_drop hi,List.set_cons_zero,List.take_succ_eq_append_getElem (by omega),List.append_assoc]
 rfl
theorem mixJ_zero (J c:List Int):mixJ J c 0=c:=by unfold mixJ;simp
theorem mixJ_full {J c:List Int}(h:J.length=c.length):mixJ J c c.length=J:=by unfold mixJ;rw[List.drop_length,List.append_nil,<- h,List.take_length]
theorem tgt_least {α:Type}{bg:α->α->Bool}{len:Nat->Nat}{f:Nat->Nat->α}{n:Nat}(hm:MonB bg len f n){t:Nat->Nat}(ht:Tgt bg len f n t):∀(m:Nat) (a:Nat->Nat),(∀t,Tgt bg len f n t->∀p,p<n->a p<=t p)->totS n (fun p=>t p - a p)<=m->∃a,LeastT bg len f n a:=by
 intro m
 induction m with
 | zero =>
  intro a ha h0
  by_cases hT:Tgt bg len f n a
  ·exact⟨a,hT,ha⟩
  ·exfalso
   obtain⟨p,q,hp,hq,hpq,hb⟩:∃p q,p<n/\q<n/\p ≠ q/\bg (f p (a p)) (f q (a q))=false:=by
    apply Classical.byContradiction
    intro hn
    refine hT ⟨fun p hp=>Nat.lt_of_le_of_lt (ha t ht p hp) (ht.1 p hp),fun p q hp hq hpq=>?_⟩
    cases hb:bg (f p (a p)) (f q (a q)) with
    | true=>rfl
    | false=>exact absurd ⟨p,q,hp,hq,hpq,hb⟩ hn
   have h1:=tgt_step hm ha hp hq hpq hb t ht q hq
   rw[if_pos rfl] at h1
   have h2:totS n (fun _=>0)<totS n (fun p=>t p - a p):=totS_lt2 n (p:=q) (fun _ _=>Nat.zero_le _) hq (by show 0<t q - a q;omega)
   omega
 | succ m ih =>
  intro a ha h0
  by_cases hT:Tgt bg len f n a
  ·exact⟨a,hT,ha⟩
  ·obtain⟨p,q,hp,hq,hpq,hb⟩:∃p q,p<n/\q<n/\p ≠ q/\bg (f p (a p)) (f q (a q))=false:=by
    apply Classical.byContradiction
    intro hn
    refine hT ⟨fun p hp=>Nat.lt_of_le_of_lt (ha t ht p hp) (ht.1 p hp),fun p q hp hq hpq=>?_⟩
    cases hb:bg (f p (a p)) (f q (a q)) with
    | true=>rfl
    | false=>exact absurd ⟨p,q,hp,hq,hpq,hb⟩ hn
   have hs:=tgt_step hm ha hp hq hpq hb
   have h1:=hs t ht q hq
   rw[if_pos rfl] at h1
   refine ih (fun r=>if r=q then a q+1 else a r) hs ?_
   have h2:totS n (fun r=>t r - (if r=q then a q+1 else a r))<totS n (fun p=>t p - a p):=totS_lt2 n (p:=q) (fun r _=>by
    show t r - (if r=q then a q+1 else a r)<=t r - a r
    split
    ·rename_i e;subst e;omega
    ·exact Nat.le_refl _) hq (by show t q - (if q=q then a q+1 else a q)<t q - a q;rw[if_pos rfl];omega)
   omega
theorem least_ex {ps:List Pr}{b:Nat->Nat->Bool}{rows:Nat->List Stp}(hR:RowsOk ps b rows)(h:∃t,TgtS ps rows t):∃a,LeastS ps rows a:=by
 obtain⟨t,ht⟩:=h
 exact tgt_least (mon_rows hR) ht _ (fun _=>0) (fun _ _ _ _=>Nat.zero_le _) (Nat.le_refl _)
def asg12 (e:Ev):Bool:=decide (12<(e.asg.length:Int))
def smP (x:Pr):Bool:=!(decide (12<(x.vars.length:Int)) || x.evs.any asg12)
def smW (ps:List Pr):Nat->Int
 | 0=>0
 | k+1=>addW (smW ps k) (nev ps k)
def smF (ps:List Pr)(m:Int):Bool:=decide (ps.length<=10) && (ps.all smP && decide (smW ps ps.length<=m))
theorem smF_cases {ps:List Pr}{m:Int}(h:smF ps m=true):Sm ps\/(Smh ps/\∃p,p<ps.length/\procF ps p ≠ 0):=by
 unfold smF at h
 rw[Bool.and_eq_true,Bool.and_eq_true,decide_eq_true_eq,List.all_eq_true] at h
 obtain⟨h1,h2,_⟩:=h
 have h3:∀p ∈ ps,p.vars.length<=12/\∀e ∈ p.evs,e.asg.length<=12:=fun p hp=>by
  have:=h2 p hp
  unfold smP at this
  rw[Bool.not_eq_true',Bool.or_eq_false_iff,decide_eq_false_iff_not,List.any_eq_false] at this
  refine⟨by omega,fun e he=>?_⟩
  have:=this.2 e he
  unfold asg12 at this
  simp at this
  omega
 by_cases hb:∃p,∃h:p<ps.length,64<ps[p].evs.length
 ·obtain⟨p,hp,hb⟩:=hb
  exact .inr ⟨⟨by omega,fun p hp=>by have:=(h3 p hp).1;omega⟩,p,hp,procF_evs hp hb⟩
 ·refine .inl ⟨by omega,fun p hp=>?_,fun p hp=>by have:=(h3 p hp).1;omega,fun p hp e he=>by have:=(h3 p hp).2 e he;omega⟩
  obtain⟨i,hi,rfl⟩:=List.getElem_of_mem hp
  apply Classical.byContradiction
  intro h4
  exact hb ⟨i,hi,by omega⟩
theorem smW_in (ps:List Pr):∀k,-9223372036854775808<=smW ps k/\smW ps k<=9223372036854775807
 | 0=>by show -9223372036854775808<=(0:Int)/\(0:Int)<=9223372036854775807;omega
 | k+1=>by
  show -9223372036854775808<=addW (smW ps k) (nev ps k)/\addW (smW ps k) (nev ps k)<=9223372036854775807
  unfold addW
  rw[IntKind.wrap_i64]
  omega
section
variable {ps:List Pr} (hva:PC prog 71 [aTr ps] (ab false))
include hva
end
structure Vd (ps:List Pr):Prop where
 val:PC prog 71 [aTr ps] (ab (validF ps))
 rval:PC prog 10 [aTr ps] (ab (validF ps))
 sm:validF ps=true->Sm ps
 big:Sm ps\/validF ps=false
theorem vd_of {ps:List Pr}{m:Int}(h:smF ps m=true):Vd ps:=by
 rcases smF_cases h with h|⟨h,hb⟩
 ·exact⟨trace_Valid ps h,ref12_Valid ps h,fun _=>h,.inl h⟩
 ·exact⟨trace_ValidB ps h hb,ref12_ValidB ps h hb,fun hv=>absurd hv (by rw[valid_bad hb];simp),.inr (valid_bad hb)⟩
mutual
def hugeF:Pd->Int->Int->Int
 | .mk _ _ _ _ _ l,d,c=>hugeL l (d+1) (if 40<d then 1000 else c+1)
def hugeL:List Pd->Int->Int->Int
 | [],_,c=>c
 | x :: r,d,c=>if c<=300 then hugeL r d (hugeF x d c) else c
end
mutual
def nodF:Pd->Int->Int->Int
 | .mk _ _ _ _ _ l,m,d=>if 40<d then m else nodL l m d 1
def nodL:List Pd->Int->Int->Int->Int
 | [],_,_,n=>n
 | x :: r,m,d,n=>if m<=n+nodF x (m - n) (d+1) then m else nodL r m d (n+nodF x (m - n) (d+1))
end
theorem spans_equal (a b:List Spn3)(ha:a.length<=1000000):PC prog 23 [aSps a,aSps b] (ab (decide (a=b))):=by
 have haE:∀l:List Spn3,aSps l = .sl 3 (l.map aSp):=fun _=>rfl
 rw[haE,haE]
 refine PE 26 [.tmp 4] [] func23 ?_;simp only[go_sem]
 refine Wk ?_
 constructor<;>intro h1
 ·refine Wk ?_
  refine Rq ?_
  congr 2;symm;apply decide_eq_false;rintro rfl;exact h1 rfl
 ·have hab:a.length=b.length:=by omega
  refine Sd ?_
  refine Ao ?_
  refine AWp.range' a.length [] [0,1,12] (fun k vs L=>L=[]/\∀(i:Nat) (hi:i<a.length),i<k->a[i]=b[i]) (by omega) rfl rfl rfl ⟨rfl,by omega⟩ ?_ ?_
  ·rintro k vs L' hk - ⟨rfl,hI⟩
   have hkb:k<b.length:=by omega
   have ga:=getD_map (f:=aSp) hk
   have gb:=getD_map (f:=aSp) hkb
   obtain⟨x1,x2,x3,hx⟩:∃x1 x2 x3,a[k]=(x1,x2,x3):=⟨_,_,_,rfl⟩
   obtain⟨y1,y2,y3,hy⟩:∃y1 y2 y3,b[k]=(y1,y2,y3):=⟨_,_,_,rfl⟩
   rw[hx] at ga
   rw[hy] at gb
   change _=AV.agg [ai x1,ai x2,ai x3] at ga
   change _=AV.agg [ai y1,ai y2,ai y3] at gb
   have hxy:a[k]=b[k]↔(x1=y1/\x2=y2)/\x3=y3:=by rw[hx,hy];exact⟨fun h=>by cases h;exact⟨⟨rfl,rfl⟩,rfl⟩,fun h=>by rw[h.1.1,h.1.2,h.2]⟩
   simp only[go_sem]
   refine Wk ?_
   refine Sq ?_
   refine AWp.read mixed [0,1,2,3,4,5,6,7,8] (by kernel_rfl) ?_;simp only[go_sem,ga,gb]
   refine Sd ?_
   by_cases he:(x1=y1/\x2=y2)/\x3=y3
   ·have hst:∀(i:Nat) (hi:i<a.length),i<k+1->a[i]=b[i]:=fun i hi hik=>by
     by_cases e:i=k
     ·subst e;exact hxy.2 he
     ·exact hI i hi (by omega)
    obtain⟨⟨rfl,rfl⟩,rfl⟩:=he
    refine Wk ?_
    exact⟨_,.refl _,rfl,hst⟩
   ·have hne:¬a=b:=fun e=>he (hxy.1 (by subst e;rfl))
    rw[decide_eq_false hne]
    have hd:(decide (x1=y1) && (decide (x2=y2) && decide (x3=y3)))=false:=by rw[<- Bool.decide_and,<- Bool.decide_and];exact decide_eq_false fun h=>he ⟨⟨h.1,h.2.1⟩,h.2.2⟩
    rw[hd]
    refine Wk ?_
    exact Rz
  ·rintro vs L' - ⟨rfl,hI⟩
   simp only[go_sem]
   refine Wk ?_
   refine Rq ?_
   congr 2;symm;apply decide_eq_true
   exact List.ext_getElem hab fun i hi _=>hI i hi hi
theorem evtG_len:∀(R:List (List Int)) (c:List Int),(evtG c R).length=R.length
 | [],_=>rfl
 | b :: R,c=>by
  show (evtG b R).length+1=_
  rw[evtG_len R b];rfl
section
variable {b:Nat->Bool} {p K:Nat} {l:List Stp}
end
section
variable {ps:List Pr} {ts:List Pd} (hC:conF ps ts=0)
include hC
end
structure TgB (ps:List Pr)(s:Nat->Stp):Prop where
 el:∀p,p<ps.length->(s p).2.1<=(s p).2.2/\(s p).2.2<=nev ps p/\(s p).1=p
 bg:∀p q,p<ps.length->q<ps.length->p ≠ q->bgN ps (s p) (s q)=true
theorem cut_at {ps:List Pr}{c:List Int}(hc:isF ps c=true){p:Nat}(hp:p<ps.length):0<=cAt c p/\cAt c p<=nev ps p:=by
 rw[nev_get hp]
 exact(inRange_iff (isF_iff.1 hc).1).1 (isF_iff.1 hc).2.1 p hp
section
variable {ps:List Pr} (hv:validF ps=true) {s:Nat->Stp} (hT:TgB ps s)
include hv hT
end
def synL:List Eid->List Syn
 | x :: y :: r=>(if x.1 ≠ y.1 then [(x,y)] else []) ++ synL (y :: r)
 | _=>[]
theorem synL_mem {s:Syn} : ∀ {es:List Eid},s ∈ synL es↔s.1.1 ≠ s.2.1/\∃(j:Nat) (h:j+1<es.length),s=(es[j],es[j+1])
 | []=>by
  constructor
  ·intro h;cases h
  ·rintro⟨_,j,h,_⟩;simp at h
 | [x]=>by
  constructor
  ·intro h;cases h
  ·rintro⟨_,j,h,_⟩;simp at h
 | x :: y :: r=>by
  have e:synL (x :: y :: r)=(if x.1 ≠ y.1 then [(x,y)] else []) ++ synL (y :: r):=rfl
  rw[e,List.mem_append,synL_mem]
  constructor
  ·rintro(h|⟨h1,j,hj,h2⟩)
   ·split at h
    ·rename_i hne
     rw[List.mem_singleton] at h
     subst h
     exact⟨hne,0,by simp,rfl⟩
    ·cases h
   ·exact⟨h1,j+1,by simp at hj ⊢;omega,h2⟩
  ·rintro⟨h1,j,hj,h2⟩
   cases j with
   | zero =>
    left
    subst h2
    have h1:x.1 ≠ y.1:=h1
    rw[if_pos h1]
    exact List.mem_singleton.2 rfl
   | succ j=>exact .inr ⟨h1,j,by simp at hj ⊢;omega,h2⟩
def hasB (c:List Int)(y:Eid):Bool:=decide (y.2<=cAt c y.1)
def rkO (O:List (List Int))(y:Eid):Nat:=(O.filter fun c=>!hasB c y).length
theorem filter_lt {α:Type}{p q:α->Bool} : ∀ {l:List α},(∀x ∈ l,p x=true->q x=true)->(∃x ∈ l,p x=false/\q x=true)->(l.filter p).length<(l.filter q).length
 | [],_,⟨_,h,_⟩=>nomatch h
 | a :: l,h,⟨x,hx,h1,h2⟩=>by
  have hle:(l.filter p).length<=(l.filter q).length:=by
   have:∀ {l:List α},(∀x ∈ l,p x=true->q x=true)->(l.filter p).length<=(l.filter q).length:=fun {l}=>by
    induction l with
    | nil=>intro _;simp
    | cons b l ih =>
     intro h
     have ih:=ih fun x hx=>h x (List.mem_cons_of_mem _ hx)
     have hb:=h b (by simp)
     rw[List.filter_cons,List.filter_cons]
     cases hp:p b with
     | true=>rw[hb hp];simp;exact ih
     | false=>cases q b <;> simp <;> omega
   exact this fun x hx=>h x (List.mem_cons_of_mem _ hx)
  rw[List.filter_cons,List.filter_cons]
  rcases List.mem_cons.1 hx with rfl|hx
  ·rw[h1,h2];simp;omega
  ·have ih:=filter_lt (l:=l) (fun x hx=>h x (List.mem_cons_of_mem _ hx)) ⟨x,hx,h1,h2⟩
   have ha:=h a (by simp)
   cases hp:p a with
   | true=>rw[ha hp];simp;exact ih
   | false=>cases q a <;> simp <;> omega
section
variable {ps:List Pr}
theorem stpC_at {c:List Int}(hc:isF ps c=true){q p:Nat}(hp:p<ps.length):cAt (stpC c q) p=if q=p then cAt c q+1 else cAt c p:=by
 have:=(isF_iff.1 hc).1
 rw[cAt_stp (by omega)]
 split
 ·rename_i e;subst e;rfl
 ·rfl
theorem chn_gain {y:Eid}(hy:0<=y.1/\y.1<ps.length):∀ {R:List (List Int)} {c:List Int},isF ps c=true->chnF ps c R=true->hasB c y=false->(∃d ∈ R,hasB d y=true) ->
  ∃a b,a ∈ c :: R/\b ∈ R/\isF ps a=true/\hasB a y=false/\(∃q,q<ps.length/\b=stpC a q/\y=((q:Int),cAt a q+1))
 | [],c,_,_,_,⟨d,hd,_⟩=>nomatch hd
 | b :: R,c,hc,h,h0,⟨d,hd,h1⟩=>by
  obtain⟨q,q1,q2,rfl,_,q5⟩:=(chn_cons hc).1 h
  cases hb:hasB (stpC c q) y with
  | false =>
   have hd':∃d ∈ R,hasB d y=true:=by
    rcases List.mem_cons.1 hd with rfl|hd
    ·rw[hb] at h1;cases h1
    ·exact⟨d,hd,h1⟩
   obtain⟨a,b,g1,g2,g3⟩:=chn_gain hy (rdy_is q2) q5 hb hd'
   exact⟨a,b,List.mem_cons_of_mem _ g1,List.mem_cons_of_mem _ g2,g3⟩
  | true =>
   refine⟨c,_,by simp,by simp,hc,h0,q,q1,rfl,?_⟩
   obtain⟨a,k⟩:=y
   have hy:0<=a/\a<ps.length:=hy
   unfold hasB at h0 hb
   simp only[decide_eq_false_iff_not,decide_eq_true_eq] at h0 hb
   obtain⟨a',rfl⟩:=Int.eq_ofNat_of_zero_le hy.1
   rw[stpC_at hc (by omega)] at hb
   split at hb
   ·rename_i e;subst e
    rw[Prod.mk.injEq];omega
   ·omega
theorem rk_lt {R:List (List Int)}(h:chnF ps (zeroC ps) R=true)(hlast:(zeroC ps :: R).getLast?=some (fullC ps)){y x:Eid}(hy:0<=y.1/\y.1<ps.length/\1<=y.2/\y.2<=nev ps y.1.toNat)(hx0:0<=x.1)(hne:y ≠ x)
  (hx:∀c ∈ zeroC ps :: R,hasB c x=true->hasB c y=true):rkO (zeroC ps :: R) y<rkO (zeroC ps :: R) x:=by
 obtain⟨y1,y2,y3,y4⟩:=hy
 have hz:hasB (zeroC ps) y=false:=by
  unfold hasB
  refine decide_eq_false ?_
  unfold zeroC cAt
  rw[getD_zeros];omega
 have hf:hasB (fullC ps) y=true:=by
  unfold hasB
  refine decide_eq_true ?_
  obtain⟨p,hp⟩:=Int.eq_ofNat_of_zero_le y1
  rw[hp] at y2 y4 ⊢
  rw[Int.toNat_natCast] at y4
  rw[fullC_at (by omega),<- nev_get (by omega)]
  exact y4
 have hR:∃d ∈ R,hasB d y=true:=by
  have hm:=List.mem_of_getLast? hlast
  rcases List.mem_cons.1 hm with e|hm
  ·rw[e,hz] at hf;cases hf
  ·exact⟨_,hm,hf⟩
 obtain⟨a,b,g1,g2,g3,g4,q,q1,rfl,q3⟩:=chn_gain ⟨y1,y2⟩ (zeroC_is ps) h hz hR
 refine filter_lt (fun c hc hn=>?_) ⟨stpC a q,List.mem_cons_of_mem _ g2,?_,?_⟩
 ·cases hh:hasB c x with
  | false=>rfl
  | true=>rw[hx c hc hh] at hn;cases hn
 ·have:hasB (stpC a q) y=true:=by
   unfold hasB
   refine decide_eq_true ?_
   rw[q3]
   show cAt a q+1<=cAt (stpC a q) q
   rw[stpC_at g3 q1,if_pos rfl];exact Int.le_refl _
  rw[this];rfl
 ·cases hh:hasB (stpC a q) x with
  | false=>rfl
  | true =>
   exfalso
   have ha:hasB a x=false:=by
    cases h2:hasB a x with
    | false=>rfl
    | true=>rw[hx a g1 h2] at g4;cases g4
   refine hne ?_
   obtain⟨u,k⟩:=x
   unfold hasB at hh ha
   simp only[decide_eq_false_iff_not,decide_eq_true_eq] at hh ha
   have hal:=(isF_iff.1 g3).1
   have hu:u.toNat=q:=by
    refine Classical.byContradiction fun hne=>?_
    unfold cAt at hh ha
    unfold stpC at hh
    rw[List.getD_eq_getElem?_getD,List.getElem?_set,if_neg (fun e=>hne e.symm),<- List.getD_eq_getElem?_getD] at hh
    exact ha hh
   have e1:cAt (stpC a q) u=cAt a u+1:=by
    unfold cAt stpC
    rw[hu,List.getD_eq_getElem?_getD,List.getElem?_set,if_pos rfl,if_pos (by omega),Option.getD_some]
    unfold cAt;rfl
   have e2:cAt a u=cAt a q:=by unfold cAt;rw[hu,Int.toNat_natCast]
   have hx0:0<=u:=hx0
   rw[q3,Prod.mk.injEq]
   omega
theorem evt_get:∀ {R:List (List Int)} {c:List Int} (_:isF ps c=true) (_:chnF ps c R=true) {j:Nat} (hj:j<(evtG c R).length),∃a,isF ps a=true/\(c :: R)[j]?=some a/\∃q,q<ps.length/\(c :: R)[j+1]?=some (stpC a q)/\(evtG c R)[j]=((q:Int),cAt a q+1)/\rdyF ps a q=true
 | [],_,_,_,j,hj=>by simp [evtG] at hj
 | b :: R,c,hc,h,j,hj=>by
  obtain⟨q,q1,q2,rfl,q4,q5⟩:=(chn_cons hc).1 h
  have e:evtG c (stpC c q :: R)=(stepF c (stpC c q),cAt (stpC c q) (stepF c (stpC c q))) :: evtG (stpC c q) R:=rfl
  cases j with
  | zero =>
   refine⟨c,hc,rfl,q,q1,rfl,?_,q2⟩
   simp only[e,List.getElem_cons_zero]
   rw[q4,stpC_at hc q1,if_pos rfl]
  | succ j =>
   have hj2:j<(evtG (stpC c q) R).length:=by rw[e,List.length_cons] at hj;omega
   obtain⟨a,a1,a2,q',a3,a4,a5,a6⟩:=evt_get (rdy_is q2) q5 hj2
   exact⟨a,a1,a2,q',a3,a4,by simp only[e,List.getElem_cons_succ];exact a5,a6⟩
theorem evt_ex {p:Nat}(hp:p<ps.length):∀ {R:List (List Int)} {c e:List Int},isF ps c=true->chnF ps c R=true->(c :: R).getLast?=some e->cAt c p<cAt e p->((p:Int),cAt c p+1) ∈ evtG c R
 | [],c,e,hc,_,hl,hlt=>by
  have:c=e:=Option.some.inj hl
  rw[this] at hlt;omega
 | b :: R,c,e,hc,h,hl,hlt=>by
  obtain⟨q,q1,q2,rfl,q4,q5⟩:=(chn_cons hc).1 h
  rw[List.getLast?_cons_cons] at hl
  have e0:evtG c (stpC c q :: R)=(stepF c (stpC c q),cAt (stpC c q) (stepF c (stpC c q))) :: evtG (stpC c q) R:=rfl
  have hat:=stpC_at hc (q:=q) hp
  rw[e0,List.mem_cons]
  by_cases hqp:q=p
  ·subst hqp
   left
   rw[q4,hat,if_pos rfl]
  ·right
   rw[if_neg hqp] at hat
   have:=evt_ex hp (rdy_is q2) q5 hl (by rw[hat];exact hlt)
   rwa [hat] at this
theorem evt_back {es:List Eid}{P:Eid->Prop}(h:∀j (hj:j+1<es.length),P es[j+1]->P es[j]):∀ {m:Nat} (hm:m<es.length),P es[m]->∀ {j:Nat} (hj:j<=m),P (es[j]'(by omega))
 | 0,hm,hp,j,hj=>by
  have:j=0:=by omega
  subst this;exact hp
 | m+1,hm,hp,j,hj=>by
  by_cases e:j=m+1
  ·subst e;exact hp
  ·exact evt_back h (m:=m) (by omega) (h m hm hp) (by omega)
theorem prefix_of {d:Nat->Nat} : ∀ {R:List (List Int)} {c:List Int},isF ps c=true->chnF ps c R=true->(c :: R).getLast?=some (fullC ps)->(∀p,p<ps.length->d p<=nev ps p) ->
  (∀p,p<ps.length->cAt c p<=d p)->(∀j (hj:j+1<(evtG c R).length),((evtG c R)[j+1]).2<=d ((evtG c R)[j+1]).1.toNat->((evtG c R)[j]).2<=d ((evtG c R)[j]).1.toNat)->∃a ∈ c :: R,∀p,p<ps.length->cAt a p=d p
 | [],c,_,_,hl,hn,hle,_=>by
  have:c=fullC ps:=Option.some.inj hl
  refine⟨c,by simp,fun p hp=>?_⟩
  have h1:=hle p hp
  have h2:=hn p hp
  rw[this,fullC_at hp,<- nev_get hp] at h1 ⊢
  omega
 | b :: R,c,hc,h,hl,hn,hle,hcl=>by
  have h':=h
  obtain⟨q,q1,q2,rfl,q4,q5⟩:=(chn_cons hc).1 h
  have e0:evtG c (stpC c q :: R)=(stepF c (stpC c q),cAt (stpC c q) (stepF c (stpC c q))) :: evtG (stpC c q) R:=rfl
  by_cases hq:cAt c q+1<=d q
  ·have hl2:=hl
   rw[List.getLast?_cons_cons] at hl2
   have hle2:∀p,p<ps.length->cAt (stpC c q) p<=d p:=fun p hp=>by
    rw[stpC_at hc hp]
    split
    ·rename_i e;subst e;exact hq
    ·exact hle p hp
   obtain⟨a,a1,a2⟩:=prefix_of (rdy_is q2) q5 hl2 hn hle2 fun j hj hd=>by
    have:=hcl (j+1) (by rw[e0,List.length_cons];omega)
    simp only[e0,List.getElem_cons_succ] at this
    exact this hd
   exact⟨a,List.mem_cons_of_mem _ a1,a2⟩
  ·refine⟨c,by simp,fun p hp=>?_⟩
   refine Int.le_antisymm (hle p hp) (Int.not_lt.1 fun hlt=>hq ?_)
   have hfull:cAt c p<cAt (fullC ps) p:=by
    have:=hn p hp
    rw[fullC_at hp,<- nev_get hp];omega
   have hm:=evt_ex hp hc h' hl hfull
   obtain⟨m,hm1,hm2⟩:=List.getElem_of_mem hm
   have hb:=evt_back (es:=evtG c (stpC c q :: R)) (P:=fun y=>y.2<=d y.1.toNat) (fun j hj=>hcl j hj) hm1 (by rw[hm2];simp only[Int.toNat_natCast];omega) (j:=0) (Nat.zero_le _)
   simp only[e0,List.getElem_cons_zero] at hb
   rw[q4,stpC_at hc q1,if_pos rfl,Int.toNat_natCast] at hb
   exact hb
theorem syn_ok {R:List (List Int)}(h:chnF ps (zeroC ps) R=true):SynOk ps (synL (evtG (zeroC ps) R)):=fun s hs=>by
 obtain⟨_,j,hj,rfl⟩:=synL_mem.1 hs
 have key:∀i (hi:i<(evtG (zeroC ps) R).length),0<=((evtG (zeroC ps) R)[i]).1/\((evtG (zeroC ps) R)[i]).1<ps.length/\1<=((evtG (zeroC ps) R)[i]).2/\((evtG (zeroC ps) R)[i]).2<=nev ps ((evtG (zeroC ps) R)[i]).1.toNat:=fun i hi=>by
  obtain⟨a,a1,_,q,a3,_,a5,a6⟩:=evt_get (zeroC_is ps) h hi
  rw[a5]
  simp only[Int.toNat_natCast]
  have h1:=cut_at (rdy_is a6) a3
  have h2:=cut_at a1 a3
  rw[stpC_at a1 a3,if_pos rfl] at h1
  omega
 exact⟨key j (by omega),key (j+1) hj⟩
theorem evt_lack:∀ {R:List (List Int)} {c:List Int} (_:isF ps c=true) (_:chnF ps c R=true) {j:Nat} (hj:j<(evtG c R).length),∀m,m<=j->∀a,(c :: R)[m]?=some a->hasB a (evtG c R)[j]=false
 | [],_,_,_,j,hj=>by simp [evtG] at hj
 | b :: R,c,hc,h,j,hj=>by
  intro m hm a ha
  obtain⟨q,q1,q2,rfl,q4,q5⟩:=(chn_cons hc).1 h
  have e:evtG c (stpC c q :: R)=(stepF c (stpC c q),cAt (stpC c q) (stepF c (stpC c q))) :: evtG (stpC c q) R:=rfl
  have hself:hasB c ((q:Int),cAt c q+1)=false:=decide_eq_false (by show ¬cAt c q+1<=cAt c q;omega)
  cases j with
  | zero =>
   have:m=0:=by omega
   subst this
   have:c=a:=Option.some.inj ha
   subst this
   simp only[e,List.getElem_cons_zero]
   rw[q4,stpC_at hc q1,if_pos rfl]
   exact hself
  | succ j =>
   have hj2:j<(evtG (stpC c q) R).length:=by rw[e,List.length_cons] at hj;omega
   simp only[e,List.getElem_cons_succ]
   cases m with
   | succ m=>exact evt_lack (rdy_is q2) q5 hj2 m (by omega) a ha
   | zero =>
    have:c=a:=Option.some.inj ha
    subst this
    have h1:=evt_lack (rdy_is q2) q5 hj2 0 (Nat.zero_le _) (stpC c q) rfl
    obtain⟨a',a1,_,q',a3,_,a5,_⟩:=evt_get (rdy_is q2) q5 hj2
    rw[a5] at h1 ⊢
    unfold hasB at h1 ⊢
    simp only[decide_eq_false_iff_not] at h1 ⊢
    rw[stpC_at hc a3] at h1
    split at h1
    ·rename_i e;subst e;omega
    ·omega
theorem chn_sum_le:∀ {R:List (List Int)} {c:List Int},isF ps c=true->chnF ps c R=true->∀d ∈ c :: R,∀y:Eid,hasB c y=true->hasB d y=true
 | [],c,_,_,d,hd,y,h=>by
  rw[List.mem_singleton] at hd
  subst hd;exact h
 | b :: R,c,hc,h,d,hd,y,hy=>by
  obtain⟨q,q1,q2,rfl,q4,q5⟩:=(chn_cons hc).1 h
  rcases List.mem_cons.1 hd with rfl|hd
  ·exact hy
  ·refine chn_sum_le (rdy_is q2) q5 d hd y ?_
   unfold hasB cAt stpC at *
   simp only[decide_eq_true_eq] at hy ⊢
   have hl:=(isF_iff.1 hc).1
   rw[List.getD_eq_getElem?_getD,List.getElem?_set]
   split
   ·rename_i e
    rw[if_pos (by omega),Option.getD_some,e]
    unfold cAt
    rw[Int.toNat_natCast]
    have:(c.getD y.1.toNat 0)=c.getD y.1.toNat 0:=rfl
    omega
   ·rw[<- List.getD_eq_getElem?_getD];exact hy
theorem evt_have:∀ {R:List (List Int)} {c:List Int} (_:isF ps c=true) (_:chnF ps c R=true) {j:Nat} (hj:j<(evtG c R).length),∀m,j<m->∀a,(c :: R)[m]?=some a->hasB a (evtG c R)[j]=true
 | [],_,_,_,j,hj=>by simp [evtG] at hj
 | b :: R,c,hc,h,j,hj=>by
  intro m hm a ha
  obtain⟨q,q1,q2,rfl,q4,q5⟩:=(chn_cons hc).1 h
  have e:evtG c (stpC c q :: R)=(stepF c (stpC c q),cAt (stpC c q) (stepF c (stpC c q))) :: evtG (stpC c q) R:=rfl
  cases m with
  | zero=>omega
  | succ m =>
   have ha:(stpC c q :: R)[m]?=some a:=ha
   cases j with
   | zero =>
    simp only[e,List.getElem_cons_zero]
    refine chn_sum_le (rdy_is q2) q5 a (List.mem_of_getElem? ha) _ ?_
    rw[q4]
    unfold hasB
    exact decide_eq_true (Int.le_refl _)
   | succ j =>
    have hj2:j<(evtG (stpC c q) R).length:=by rw[e,List.length_cons] at hj;omega
    simp only[e,List.getElem_cons_succ]
    exact evt_have (rdy_is q2) q5 hj2 m (by omega) a ha
theorem syn_rnk (hv:validF ps=true){R:List (List Int)}(h:chnF ps (zeroC ps) R=true)(hl:(zeroC ps :: R).getLast?=some (fullC ps)):RnkX ps (synL (evtG (zeroC ps) R)) (rkO (zeroC ps :: R)):=fun p hp i hi y hy=>by
 have hok:=syn_ok h
 have hev:=dirX_ev hv hok hp hi y hy
 have hR:∀c ∈ zeroC ps :: R,isF ps c=true:=fun c hc=>by
  rcases List.mem_cons.1 hc with rfl|hc
  ·exact zeroC_is ps
  ·obtain⟨j,hj,rfl⟩:=List.getElem_of_mem hc
   exact(chn_iff.1 h j hj).1
 have hy':=hy
 unfold dirX dirE at hy
 rw[List.mem_append,List.mem_append] at hy
 rcases hy with (hy|hy)|hy
 ·split at hy
  ·rw[List.mem_singleton] at hy
   subst hy
   refine rk_lt h hl hev (by show (0:Int)<=(p:Int);omega) (by intro e;rw[Prod.mk.injEq] at e;omega) fun c _ hc=>?_
   unfold hasB at *
   simp only[decide_eq_true_eq] at *
   omega
  ·cases hy
 ·split at hy
  ·rename_i hk
   rw[List.mem_singleton] at hy
   subst hy
   have hn:=nev_get hp
   rw[evq_get hp (by omega)] at hk hev ⊢
   obtain⟨_,_,m3⟩:=valid_parts hv
   refine rk_lt h hl hev (by show (0:Int)<=(p:Int);omega) ?_ fun c hc hx=>?_
   ·intro e
    obtain⟨hq,j,hj,hsd,g1,g2⟩:=recv_peer m3 hp (by omega) hk
    have hne:=peer_ne hv hp (by omega) hk
    have e1:=congrArg Prod.fst e
    rw[hsd] at e1
    have e1:((ps[p].evs[i].peer.toNat:Nat):Int)=p:=e1
    omega
   ·obtain⟨c1,c2,c3⟩:=isF_iff.1 (hR c hc)
    unfold hasB at hx ⊢
    simp only[decide_eq_true_eq] at hx ⊢
    exact closed_iff.1 c3 p hp i (by omega) hk hx
  ·cases hy
 ·obtain⟨s,h1,rfl⟩:=List.mem_map.1 hy
  obtain⟨h2,h3⟩:=List.mem_filter.1 h1
  have h3:=of_decide_eq_true h3
  obtain⟨hne,j,hj,rfl⟩:=synL_mem.1 h2
  have h3:(evtG (zeroC ps) R)[j+1]=((p:Int),(i:Int)+1):=h3
  rw[<- h3]
  refine rk_lt h hl hev (by rw[h3];show (0:Int)<=(p:Int);omega) (fun e=>hne (congrArg Prod.fst e)) fun c hc hx=>?_
  obtain⟨m,hm,rfl⟩:=List.getElem_of_mem hc
  have hmg:(zeroC ps :: R)[m]?=some (zeroC ps :: R)[m]:=List.getElem?_eq_getElem hm
  by_cases hmj:m<=j+1
  ·rw[evt_lack (zeroC_is ps) h hj m hmj _ hmg] at hx;cases hx
  ·exact evt_have (zeroC_is ps) h (by omega) m (by omega) _ hmg
theorem syn_ctl {bad:Nat->Nat->Bool}{R:List (List Int)}(hD:DodgeR ps bad (zeroC ps :: R)):ctlB ps (synL (evtG (zeroC ps) R)) bad=true:=by
 obtain⟨R',hR',h,hl⟩:=isrun_inv hD.run
 have:R=R':=by injection hR'
 subst this
 rw[ctlB_true]
 rintro⟨d,hd⟩
 obtain⟨a,ha,hat⟩:=prefix_of (d:=d) (zeroC_is ps) h hl hd.rng (fun p hp=>by unfold zeroC cAt;rw[getD_zeros];omega) fun j hj hx=>by
  obtain⟨a,a1,_,q,a3,_,a5,a6⟩:=evt_get (zeroC_is ps) h hj
  obtain⟨a',a1',_,q',a3',_,a5',a6'⟩:=evt_get (zeroC_is ps) h (show j<(evtG (zeroC ps) R).length by omega)
  have h1:=cut_at (rdy_is a6) a3
  have h2:=cut_at a1 a3
  rw[stpC_at a1 a3,if_pos rfl] at h1
  by_cases hne:((evtG (zeroC ps) R)[j]).1 ≠ ((evtG (zeroC ps) R)[j+1]).1
  ·have hs:((evtG (zeroC ps) R)[j],(evtG (zeroC ps) R)[j+1]) ∈ synL (evtG (zeroC ps) R):=synL_mem.2 ⟨hne,j,hj,rfl⟩
   refine hd.clo q a3 (cAt a q).toNat (by omega) ?_ _ ?_
   ·rw[a5] at hx
    simp only[Int.toNat_natCast] at hx
    omega
   ·unfold dirX
    refine List.mem_append_right _ (List.mem_map.2 ⟨_,List.mem_filter.2 ⟨hs,decide_eq_true ?_⟩,rfl⟩)
    show (evtG (zeroC ps) R)[j+1]=_
    rw[a5,Prod.mk.injEq]
    omega
  ·-- the same process: the event before has a smaller number
   have hne:((evtG (zeroC ps) R)[j]).1=((evtG (zeroC ps) R)[j+1]).1:=Classical.not_not.1 hne
   have hlk:=evt_lack (zeroC_is ps) h hj (j+1) (Nat.le_refl _)
   obtain⟨b,hb⟩:∃b,(zeroC ps :: R)[j+1]?=some b:=⟨a,by assumption⟩
   have g1:=hlk b hb
   have g2:=evt_have (zeroC_is ps) h (show j<(evtG (zeroC ps) R).length by omega) (j+1) (by omega) b hb
   unfold hasB at g1 g2
   simp only[decide_eq_true_eq,decide_eq_false_iff_not] at g1 g2
   rw[hne] at g2 ⊢
   omega
 obtain⟨p,hp,hb⟩:=hD.av a ha
 have:=hd.bad p hp
 rw[hat p hp,Int.toNat_natCast,this] at hb
 cases hb
end
end Go.AL
end
