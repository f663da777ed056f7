/- Texts of this claim's proof: WI30, WI31. No condition. -/
import Derived.Test.YtpcmoecaaphjmaaGreatDoorM20
section
namespace Go.AL
open Go Go.RowKit
set_option maxRecDepth 4000
def cmpE:Pd→Option (Int × Tms)
 | .mk k _ _ _ _ l=>if 9≤k∧k≤12 then match l with | [x,y]=>linE (dfP x y)|_=>none else none
inductive CmpR (t:Pd):AV→Prop
 | yes (c:Int) (h g:Tms) (he:cmpE t=some (c,g)) (hq:EqT h g) (hl:h.length≤szF t):CmpR t (.tup [.agg [ai c,.rm (keysT h) (valsT h)],ab true])
 | no (c:Int) (m:AV) (hm:m = .v (.map none)∨∃ks vs,m = .rm ks vs) (he:cmpE t=none):CmpR t (.tup [.agg [ai c,m],ab false])
theorem cmpE_nd {k:Int} (hk:k=9∨k=10∨k=11∨k=12) (x y:Pd):cmpE (nd k [x,y])=linE (dfP x y):=by
 show (if 9≤k∧k≤12 then _ else _)=_
 rw[if_pos (by omega)]
theorem cmpE_no {t:Pd} (h:¬(9≤t.kind∧t.kind≤12)):cmpE t=none:=by
 obtain⟨k,n,p,q,s,l⟩:=t
 have h:¬(9≤k∧k≤12):=h
 show (if 9≤k∧k≤12 then _ else _)=_
 rw[if_neg h]
theorem classify_comparedG (t:Pd) (hp:PredOk t) (hz:szF t≤1000000):MCalls Proofs.Tryz.prog 208 [aPd t] [] fun r L=>L=[]∧CmpR t r:=by
 by_cases hk:9≤t.kind∧t.kind≤12
 ·obtain⟨k,x,y,hk4,rfl,hx,hy⟩:=pred_cmp hp hk.2
  have hzx:szF (nd k [x,y])=szF x+szF y+1:=by rw[nd_szF];simp only[szL];omega
  refine(classify_compared k (by omega) 0 0 0 ByteArray.empty x y (by omega) (by omega) hx hy).mono ?_
  rintro r L ⟨rfl,hR⟩
  refine⟨rfl,?_⟩
  rcases hR with ⟨c,h,hs⟩|⟨c,m,hm,hE⟩
  ·obtain⟨g,h1,h2⟩:=hs.can
   exact .yes c h g (by rw[cmpE_nd hk4,h1]) h2 (by have:=lin_len hx hy hs;omega)
  ·exact .no c m hm (by rw[cmpE_nd hk4,hE])
 ·exact PC.use (classify_comparedN t hk) ⟨rfl,.no 0 _ (.inl rfl) (cmpE_no hk)⟩
def cntS (sg:Int) (g:Tms):Bool:=g.all fun x=>decide (x.1.1=3) && !decide (x.2 * sg<0)
set_option maxHeartbeats 1000000 in
theorem classify_counts (c:Int) (h:Tms) (sg:Int) (hsg:sg=1∨sg = -1) (hco:∀x ∈ h,NumB x.2):PC Proofs.Tryz.prog 277 [.agg [ai c,.rm (keysT h) (valsT h)],ai sg] (ab (cntS sg h)):=by
 have hkl:=keysT_len h
 have hbad:∀i (hi:i<h.length),¬(h[i].1.1=3∧¬h[i].2 * sg<0)→cntS sg h=false:=fun i hi hb=>by
  unfold cntS
  rw[Bool.eq_false_iff,Ne,List.all_eq_true]
  intro ha
  have:=ha _ (List.getElem_mem hi)
  rw[Bool.and_eq_true,Bool.not_eq_true',decide_eq_true_eq,decide_eq_false_iff_not] at this
  exact hb this
 have hgood:(∀i (hi:i<h.length),h[i].1.1=3∧¬h[i].2 * sg<0)→cntS sg h=true:=fun ha=>by
  unfold cntS
  rw[List.all_eq_true]
  intro x hx
  obtain⟨i,hi,rfl⟩:=List.getElem_of_mem hx
  rw[Bool.and_eq_true,Bool.not_eq_true',decide_eq_true_eq,decide_eq_false_iff_not]
  exact ha i hi
 generalize cntS sg h=R at *
 refine PC.enter 24 [.tmp 4] [2,5] Proofs.Tryz.func277 rfl rfl rfl rfl rfl (by simp) (AWp.of ?_);simp only[go_sem]
 refine Wk ?_
 refine AOp.rangeMap (ks:=keysT h) (vs:=valsT h) (kt:=253) (et:=3) rfl tinfo_atoms (fun i hi=>by cases hi;decide) rfl ?_
 intro bi g3
 simp only[go_sem] at g3 ⊢
 refine Wk ?_
 refine AWp.block (AWp.loopN [] [1,9] (fun m vs L=>∃vis,m=h.length - vis.length∧vis.Nodup∧(∀i ∈ vis,i<h.length)∧(∀i ∈ vis,∀hi:i<h.length,h[i].1.1=3∧¬h[i].2 * sg<0)∧vs=[]∧L=[(bi,.iter (keysT h) (valsT h) vis)]) h.length ⟨[],rfl,.nil,by simp,by simp,rfl,rfl⟩ ?_)
 rintro m vs L - ⟨vis,rfl,hvn,hvl,hvk,rfl,rfl⟩
 have hvn':∀i,i ∉ vis→(vis ++ [i]).Nodup:=fun i hn=>List.nodup_append.2 ⟨hvn,by simp,fun a ha b hb=>by rw[List.mem_singleton.1 hb];rintro rfl;exact hn ha⟩
 have hvl':∀i,i<h.length→∀j ∈ vis ++ [i],j<h.length:=fun i hi j hj=>by
  rcases List.mem_append.1 hj with hj|hj
  ·exact hvl j hj
  ·rw[List.mem_singleton.1 hj];exact hi
 have hvc:∀i,i<h.length→i ∉ vis→h.length - (vis ++ [i]).length<h.length - vis.length:=fun i hi hn=>by
  have:=List.Nodup.length_le_of_subset (hvn' i hn) (l₂:=List.range h.length) (fun j hj=>List.mem_range.2 (hvl' i hi j hj))
  rw[List.length_range,List.length_append,List.length_singleton] at this
  rw[List.length_append,List.length_singleton]
  omega
 simp only[go_sem]
 refine Sd ?_
 refine AWp.of ?_;simp only[go_sem]
 refine AOp.nextMap (ks:=keysT h) (vs:=valsT h) (vis:=vis) (b:=bi) rfl ?_ rfl (if_pos rfl) (fun hall => ?_) ?_
 ·intro i hi;cases hi;decide
 ·rw[hkl] at hall
  have hR:=hgood fun i hi=>hvk i (hall i hi) hi
  simp only[go_sem]
  refine Wk ?_
  refine ret_eq ?_;simp only[go_sem]
  rw[hR]
 ·intro i hi hn
  rw[hkl] at hi
  have hbad:=hbad i hi
  have hco:=hco _ (List.getElem_mem hi)
  unfold NumB at hco
  have hvk':h[i].1.1=3∧¬h[i].2 * sg<0→∀j ∈ vis ++ [i],∀hj:j<h.length,h[j].1.1=3∧¬h[j].2 * sg<0:=fun hg j hj hjl=>by
   rcases List.mem_append.1 hj with hj|hj
   ·exact hvk j hj hjl
   ·obtain rfl:=List.mem_singleton.1 hj;exact hg
  simp only[go_sem]
  refine Wk ?_
  refine AOp.entryMap (ks:=keysT h) (vs:=valsT h) (vis:=vis) (i:=i) (b:=bi) rfl ?_ rfl (if_pos rfl) ?_
  ·intro i hi;cases hi;decide
  simp only[go_sem,keysT_getD hi,valsT_getD hi,zav_atmV]
  intro b5 g4
  have n1:¬bi=b5:=by omega
  have n2:¬b5=bi:=by omega
  have hmw:mulW h[i].2 sg=h[i].2 * sg:=mulW_eq (by unfold I64;rcases hsg with rfl|rfl <;> omega)
  by_cases h3:h[i].1.1=3
  ·by_cases h4:h[i].2 * sg<0
   ·have hR:=hbad fun e=>e.2 h4
    refine Sd ?_
    refine W5 h3 h4 hmw n1 n2 ?_
    refine ret_eq ?_;simp only[go_sem]
    rw[hR]
   ·have hvk':=hvk' ⟨h3,h4⟩
    have hvn':=hvn' i hn
    have hvl':=hvl' i hi
    have hvc:=hvc i hi hn
    refine Sd ?_
    refine W5 h3 h4 hmw n1 n2 ?_
    exact⟨_,List.Sublist.refl _,_,hvc,vis ++ [i],rfl,hvn',hvl',hvk',rfl⟩
  ·have hR:=hbad fun e=>h3 e.1
   refine Sd ?_
   refine W3 h3 n1 n2 ?_
   refine ret_eq ?_;simp only[go_sem]
   rw[hR]
def seenL (h:Tms) (vis:List Nat):Tms:=vis.map fun i=>h.getD i a0
theorem seenL_all {h:Tms} {vis:List Nat} (hn:vis.Nodup) (hl:∀i ∈ vis,i<h.length) (ha:∀i,i<h.length→i ∈ vis):(seenL h vis).Perm h:=by
 have hp:vis.Perm (List.range h.length):=(List.perm_ext_iff_of_nodup hn List.nodup_range).2 fun i=>⟨fun e=>List.mem_range.2 (hl i e),fun e=>ha i (List.mem_range.1 e)⟩
 have h1:=hp.map fun i=>h.getD i a0
 have h2:(List.range h.length).map (fun i=>h.getD i a0)=h:=by
  apply List.ext_getElem
  ·simp
  ·intro i h1 h2
   simp [List.getD_eq_getElem?_getD,List.getElem?_eq_getElem h2]
 rw[h2] at h1
 exact h1
def nF (p:Atm × Int→Bool) (h:Tms):Int:=((h.filter p).length:Nat)
theorem nF_perm {p:Atm × Int→Bool} {a b:Tms} (h:a.Perm b):nF p a=nF p b:=by unfold nF;rw[(h.filter p).length_eq]
theorem nF_snoc (p:Atm × Int→Bool) {h:Tms} {i:Nat} (hi:i<h.length) (vis:List Nat):nF p (seenL h (vis ++ [i]))=nF p (seenL h vis)+if p h[i]=true then 1 else 0:=by
 unfold nF seenL
 rw[List.map_append,List.filter_append,List.length_append,List.map_cons,List.map_nil,getD_a0 hi,List.filter_cons]
 split <;> simp
theorem nF_le (p:Atm × Int→Bool) (h:Tms) (vis:List Nat):0≤nF p (seenL h vis)∧nF p (seenL h vis)≤vis.length:=by
 unfold nF
 have:=List.length_filter_le p (seenL h vis)
 have e:(seenL h vis).length=vis.length:=List.length_map _
 omega
def isChn (x:Atm × Int):Bool:=decide (x.1.1=4)
def isPos (x:Atm × Int):Bool:=decide (x.1.1=3) && decide (0<x.2)
def isNeg (x:Atm × Int):Bool:=decide (x.1.1=3) && !decide (0<x.2)
def twoS (h:Tms):Bool:=(decide ((h.length:Int)=1) && decide (nF isChn h=1)) || (decide ((h.length:Int)=2) && decide (nF isPos h=1) && decide (nF isNeg h=1))
theorem twoS_perm {a b:Tms} (h:a.Perm b):twoS a=twoS b:=by unfold twoS;rw[h.length_eq,nF_perm h,nF_perm h,nF_perm h]
theorem cntS_perm {sg:Int} {a b:Tms} (h:a.Perm b):cntS sg a=cntS sg b:=all_perm h
def bothF (t:Pd):Bool:=match cmpE t with
 | some x => !decide (t.kind=10) && twoS x.2
 | none=>false
def bndF (t:Pd) (sg:Int):Bool:=match cmpE t with
 | some x=>decide ((x.2.length:Int)=0) || (decide (t.kind=11∨t.kind=12) && cntS sg x.2)
 | none=>false
set_option maxHeartbeats 2000000 in
theorem classify_both (t:Pd) (hp:PredOk t) (hz:szF t≤1000000):PC Proofs.Tryz.prog 215 [aPd t] (ab (bothF t)):=by
 have hc:=classify_comparedG t hp hz
 have hno:cmpE t=none→bothF t=false:=fun h=>by unfold bothF;rw[h]
 have hyes:∀c h g,cmpE t=some (c,g)→EqT h g→bothF t=(!decide (t.kind=10) && twoS h):=fun c h g h1 h2=>by unfold bothF;rw[h1];simp only[];rw[twoS_perm h2.perm]
 obtain⟨k,n,p,q,s,l⟩:=t
 have hyes:∀c h g,cmpE (.mk k n p q s l)=some (c,g)→EqT h g→bothF (.mk k n p q s l)=(!decide (k=10) && twoS h):=hyes
 generalize bothF (.mk k n p q s l)=R at *
 simp only[aPd_mk] at hc ⊢
 refine PC.enter 74 [.tmp 2] [1,3,8] Proofs.Tryz.func215 rfl rfl rfl rfl rfl (by simp) (AWp.of ?_);simp only[go_sem]
 refine Wk ?_
 refine(MVal.frame (Lm:=[]) (Lr:=_) hc.val).mono ?_
 rintro r L ⟨L1,rfl,rfl,hR⟩
 rcases hR with ⟨c,h,g,he,hq,hl⟩|⟨c,m,hm,he⟩
 ·have hyes:=hyes c h g he hq
  clear hno he
  have hll:h.length≤1000000:=Nat.le_trans hl hz
  have hkl:=keysT_len h
  simp only[go_sem]
  refine Wk ?_
  intro b3
  refine Sd ?_
  by_cases hk:k=10
  ·rw[decide_eq_true hk] at hyes
   have hyes:R=false:=hyes
   refine W1 hk ?_
   refine ret_eq ?_;simp only[go_sem]
   rw[hyes]
  rw[decide_eq_false hk] at hyes
  have hyes:R=twoS h:=hyes
  refine W1 hk ?_
  refine AOp.rangeMap (ks:=keysT h) (vs:=valsT h) (kt:=253) (et:=3) rfl tinfo_atoms (fun i hi=>by cases hi;decide) rfl ?_
  intro bi g3
  simp only[go_sem] at g3 ⊢
  refine Wk ?_
  refine AWp.block (AWp.loopN [5,6,7] [3,24] (fun m vs L=>∃vis,m=h.length - vis.length∧vis.Nodup∧(∀i ∈ vis,i<h.length)∧vs=[ai (nF isPos (seenL h vis)),ai (nF isNeg (seenL h vis)),ai (nF isChn (seenL h vis))]∧L=[(bi,.iter (keysT h) (valsT h) vis)]) h.length ⟨[],rfl,.nil,by simp,rfl,rfl⟩ ?_)
  rintro m vs L - ⟨vis,rfl,hvn,hvl,rfl,rfl⟩
  have hvn':∀i,i ∉ vis→(vis ++ [i]).Nodup:=fun i hn=>List.nodup_append.2 ⟨hvn,by simp,fun a ha b hb=>by rw[List.mem_singleton.1 hb];rintro rfl;exact hn ha⟩
  have hvl':∀i,i<h.length→∀j ∈ vis ++ [i],j<h.length:=fun i hi j hj=>by
   rcases List.mem_append.1 hj with hj|hj
   ·exact hvl j hj
   ·rw[List.mem_singleton.1 hj];exact hi
  have hvc:∀i,i<h.length→i ∉ vis→h.length - (vis ++ [i]).length<h.length - vis.length:=fun i hi hn=>by
   have:=List.Nodup.length_le_of_subset (hvn' i hn) (l₂:=List.range h.length) (fun j hj=>List.mem_range.2 (hvl' i hi j hj))
   rw[List.length_range,List.length_append,List.length_singleton] at this
   rw[List.length_append,List.length_singleton]
   omega
  have hvb:vis.length≤h.length:=by
   have:=List.Nodup.length_le_of_subset hvn (l₂:=List.range h.length) (fun j hj=>List.mem_range.2 (hvl j hj))
   rwa [List.length_range] at this
  have b1:=nF_le isPos h vis
  have b2:=nF_le isNeg h vis
  have b3:=nF_le isChn h vis
  have s1:=fun i (hi:i<h.length)=>nF_snoc isPos hi vis
  have s2:=fun i (hi:i<h.length)=>nF_snoc isNeg hi vis
  have s3:=fun i (hi:i<h.length)=>nF_snoc isChn hi vis
  have hend:(∀i,i<h.length→i ∈ vis)→R=((decide ((h.length:Int)=1) && decide (nF isChn (seenL h vis)=1)) || (decide ((h.length:Int)=2) && decide (nF isPos (seenL h vis)=1) && decide (nF isNeg (seenL h vis)=1))):=fun ha=>by
   have hp:=seenL_all hvn hvl ha
   rw[hyes,nF_perm hp,nF_perm hp,nF_perm hp];rfl
  generalize hp':nF isPos (seenL h vis)=vp at *
  generalize hn':nF isNeg (seenL h vis)=vn at *
  generalize hc':nF isChn (seenL h vis)=vc at *
  simp only[go_sem]
  refine Sd ?_
  refine AWp.of ?_;simp only[go_sem]
  refine AOp.nextMap (ks:=keysT h) (vs:=valsT h) (vis:=vis) (b:=bi) rfl ?_ rfl (if_pos rfl) (fun hall => ?_) ?_
  ·intro i hi;cases hi;decide
  ·rw[hkl] at hall
   have hend:=hend hall
   clear hyes s1 s2 s3
   rw[← hkl] at hend
   simp only[go_sem]
   refine Wk ?_
   refine ret_eq ?_;simp only[go_sem]
   rw[hend]
  ·intro i hi hn
   rw[hkl] at hi
   have s1:=s1 i hi
   have s2:=s2 i hi
   have s3:=s3 i hi
   have hvn':=hvn' i hn
   have hvl':=hvl' i hi
   have hvc:=hvc i hi hn
   clear hyes hend
   rw[show isPos h[i]=(decide (h[i].1.1=3) && decide (0<h[i].2)) from rfl] at s1
   rw[show isNeg h[i]=(decide (h[i].1.1=3) && !decide (0<h[i].2)) from rfl] at s2
   rw[show isChn h[i]=decide (h[i].1.1=4) from rfl] at s3
   simp only[go_sem]
   refine Wk ?_
   refine AOp.entryMap (ks:=keysT h) (vs:=valsT h) (vis:=vis) (i:=i) (b:=bi) rfl ?_ rfl (if_pos rfl) ?_
   ·intro i hi;cases hi;decide
   simp only[go_sem,keysT_getD hi,valsT_getD hi,zav_atmV]
   intro b8 g4
   have n1:¬bi=b8:=by omega
   have n2:¬b8=bi:=by omega
   refine Sd ?_
   by_cases h4:h[i].1.1=4
   ·simp [h4] at s1 s2 s3
    repeat(first|((with_reducible refine AWp.ofC ?_ ?_);exact rfl;simp only[go_sem,h4,n1,n2,Int.reduceEq])|((with_reducible refine an ?_ ?_);exact Au))
    exact⟨_,List.Sublist.refl _,_,hvc,vis ++ [i],rfl,hvn',hvl',by rw[s1,s2,s3],rfl⟩
   by_cases h3:h[i].1.1=3
   ·by_cases h5:0<h[i].2
    ·simp [h4,h3,h5] at s1 s2 s3
     repeat(first|((with_reducible refine AWp.ofC ?_ ?_);exact rfl;simp only[go_sem,h4,h3,h5,n1,n2,Int.reduceEq])|((with_reducible refine an ?_ ?_);exact Au))
     exact⟨_,List.Sublist.refl _,_,hvc,vis ++ [i],rfl,hvn',hvl',by rw[s1,s2,s3],rfl⟩
    ·simp [h4,h3,h5] at s1 s2 s3
     repeat(first|((with_reducible refine AWp.ofC ?_ ?_);exact rfl;simp only[go_sem,h4,h3,h5,n1,n2,Int.reduceEq])|((with_reducible refine an ?_ ?_);exact Au))
     exact⟨_,List.Sublist.refl _,_,hvc,vis ++ [i],rfl,hvn',hvl',by rw[s1,s2,s3],rfl⟩
   ·simp [h4,h3] at s1 s2 s3
    refine W4 h4 h3 n1 n2 ?_
    exact⟨_,List.Sublist.refl _,_,hvc,vis ++ [i],rfl,hvn',hvl',by rw[s1,s2,s3],rfl⟩
 ·have hno:=hno he
  clear hyes he
  rcases hm with rfl|⟨ks,vs,rfl⟩
  all_goals
   simp only[go_sem]
   refine Wk ?_
   intro b3
   refine Sd ?_
   refine Wk ?_
   refine ret_eq ?_;simp only[go_sem]
   rw[hno]
set_option maxHeartbeats 1000000 in
theorem classify_boundedG (t:Pd) (hp:PredOk t) (hz:szF t≤1000000) (sg:Int) (hsg:sg=1∨sg = -1):PC Proofs.Tryz.prog 214 [aPd t,ai sg] (ab (bndF t sg)):=by
 have hc:=classify_comparedG t hp hz
 have h2:=classify_is [11,12]
 have h3:=classify_is1 [11,12] (by decide) t
 have hk:([11,12]:List Int).any (fun x=>decide (t.kind=x))=decide (t.kind=11∨t.kind=12):=by
  rw[Bool.eq_iff_iff];simp
 rw[hk] at h3
 have h3:=PC.clo (args:=[_]) (caps:=[_]) h3
 have hno:cmpE t=none→bndF t sg=false:=fun h=>by unfold bndF;rw[h]
 have hyes:∀c h g,cmpE t=some (c,g)→EqT h g→bndF t sg=(decide ((h.length:Int)=0) || (decide (t.kind=11∨t.kind=12) && cntS sg h)):=fun c h g h1 h2=>by unfold bndF;rw[h1];simp only[];rw[cntS_perm h2.perm,h2.perm.length_eq]
 generalize decide (t.kind=11∨t.kind=12)=K at *
 obtain⟨k,n,p,q,s,l⟩:=t
 generalize bndF (.mk k n p q s l) sg=R at *
 simp only[aPd_mk,List.map_cons,List.map_nil] at hc h2 h3 ⊢
 refine PC.enter 30 [.tmp 4] [2,5,19] Proofs.Tryz.func214 rfl rfl rfl rfl rfl (by simp) (AWp.of ?_);simp only[go_sem]
 refine Wk ?_
 refine(MVal.frame (Lm:=[]) (Lr:=_) hc.val).mono ?_
 rintro r L ⟨L1,rfl,rfl,hR⟩
 rcases hR with ⟨c,h,g,he,hq,hl⟩|⟨c,m,hm,he⟩
 ·have hyes:=hyes c h g he hq
  have hcnt:=classify_counts c h sg hsg (fun x hx=>(hq.l.co x hx).2)
  have hkl:=keysT_len h
  rw[← hkl] at hyes
  clear hno he hc
  generalize cntS sg h=S at *
  simp only[go_sem]
  refine Wk ?_
  intro b5
  refine Sd ?_
  by_cases e0:((keysT h).length:Int)=0
  ·rw[decide_eq_true e0] at hyes
   have hyes:R=true:=hyes
   subst hyes
   repeat(first|(with_reducible refine AWp.seq ?_)|(with_reducible refine AWp.block ?_))
   refine AWp.mix mixed [0,1,2,3,4,5,6,7,8,9,10,11,12,13,14,15,16,17,18] .done (by kernel_rfl) ?_;simp only[go_sem,e0]
   refine GCall.use .any (fun h=>absurd h (by simp)) ?_
   simp only[go_sem,e0]
   refine GCall.use (ab false) (fun h=>absurd h (by simp)) ?_
   simp only[go_sem,e0]
   refine GCall.use (ab false) (fun h=>absurd h (by simp)) ?_
   simp only[go_sem,e0]
   refine W1 e0 ?_
   refine ret_eq ?_;simp only[go_sem]
  ·rw[decide_eq_false e0] at hyes
   have hyes:R=(K && S):=hyes
   subst hyes
   repeat(first|(with_reducible refine AWp.seq ?_)|(with_reducible refine AWp.block ?_))
   refine AWp.mix mixed [0,1,2,3,4,5,6,7,8,9,10,11,12,13,14,15,16,17,18] .done (by kernel_rfl) ?_;simp only[go_sem,e0]
   refine Sd ?_
   refine GCall.use (.clo 269 [.rp 1 [.sl 1 [ai 11,ai 12]] 0 0]) (fun _=>⟨At,(h2).val.use ⟨rfl,rfl⟩⟩) ?_;simp only[go_sem,e0]
   refine Sd ?_
   refine GCall.use (ab K) (fun _=>⟨At,h3.use ⟨rfl,rfl⟩⟩) ?_
   simp only[go_sem,e0]
   refine Sd ?_
   cases K with
   | true =>
    refine Sd ?_
    refine GCall.use (ab S) (fun _=>⟨At,(hcnt).val.use ⟨rfl,rfl⟩⟩) ?_;simp only[go_sem,e0]
    refine Sd ?_
    refine W1 e0 ?_
    refine ret_eq ?_;simp only[go_sem]
   | false =>
    refine GCall.use (ab false) (fun h=>absurd h (by simp)) ?_
    simp only[go_sem,e0]
    refine W1 e0 ?_
    refine ret_eq ?_;simp only[go_sem]
 ·have hno:=hno he
  clear hyes he hc
  subst hno
  rcases hm with rfl|⟨ks,vs,rfl⟩
  all_goals
   simp only[go_sem]
   refine Wk ?_
   intro b5
   refine Sd ?_
   repeat(first|(with_reducible refine AWp.seq ?_)|(with_reducible refine AWp.block ?_))
   refine AWp.mix mixed [0,1,2,3,4,5,6,7,8,9,10,11,12,13,14,15,16,17,18] .done (by kernel_rfl) ?_;simp only[go_sem]
   refine GCall.use .any (fun h=>h.elim) ?_
   simp only[go_sem]
   refine GCall.use (ab false) (fun h=>h.elim) ?_
   simp only[go_sem]
   refine GCall.use (ab false) (fun h=>False.elim (by simp at h)) ?_
   simp only[go_sem]
   refine Wk ?_
   refine ret_eq ?_;simp only[go_sem]
mutual
def stabF:Pd→Bool
 | .mk k n p q s l=>if k=13∨k=14∨k=21 then true else if k=16∨k=17 then stabL l else bndF (.mk k n p q s l) (-1)
def stabL:List Pd→Bool
 | []=>true
 | x :: r=>stabF x && stabL r
end
theorem stabF_nd (k:Int) (l:List Pd):stabF (nd k l)=if k=13∨k=14∨k=21 then true else if k=16∨k=17 then stabL l else bndF (nd k l) (-1):=by unfold nd;rw[stabF]
theorem stabL_2 (x y:Pd):stabL [x,y]=(stabF x && stabF y):=by rw[stabL,stabL,stabL,Bool.and_true]
mutual
def lnrF:Pd→Bool
 | .mk k n p q s l=>(locR (.mk k n p q s l)).2 || bndF (.mk k n p q s l) 1 || bothF (.mk k n p q s l) || decide (k=18) || (decide (k=16) && lnrL l)
def lnrL:List Pd→Bool
 | []=>true
 | x :: r=>lnrF x && lnrL r
end
theorem lnrF_nd (k:Int) (l:List Pd):lnrF (nd k l)=((locR (nd k l)).2 || bndF (nd k l) 1 || bothF (nd k l) || decide (k=18) || (decide (k=16) && lnrL l)):=by unfold nd;rw[lnrF]
theorem lnrL_2 (x y:Pd):lnrL [x,y]=(lnrF x && lnrF y):=by rw[lnrL,lnrL,lnrL,Bool.and_true]
mutual
def plnF:Pd→Bool
 | .mk k n p q s l=>(locR (.mk k n p q s l)).2 || stabF (.mk k n p q s l) || bothF (.mk k n p q s l) || (decide (k=16) && plnL l)
def plnL:List Pd→Bool
 | []=>true
 | x :: r=>plnF x && plnL r
end
theorem plnF_nd (k:Int) (l:List Pd):plnF (nd k l)=((locR (nd k l)).2 || stabF (nd k l) || bothF (nd k l) || (decide (k=16) && plnL l)):=by unfold nd;rw[plnF]
theorem plnL_2 (x y:Pd):plnL [x,y]=(plnF x && plnF y):=by rw[plnL,plnL,plnL,Bool.and_true]
theorem stable_bin (k:Int) (hk:k=16∨k=17) (x y:Pd) (a b:Bool) (h1:PC Proofs.Tryz.prog 140 [aPd x] (ab a)) (h2:PC Proofs.Tryz.prog 140 [aPd y] (ab b)):PC Proofs.Tryz.prog 140 [aPd (nd k [x,y])] (ab (a && b)):=by
 have hN:aPd (nd k [x,y]) = .agg [ai k,ai 0,ai 0,ai 0,astr ByteArray.empty,.sl 6 [aPd x,aPd y]]:=by unfold nd;rw[aPd_mk];rfl
 rw[hN]
 obtain⟨k1,o1,p1,q1,s1,X1,hX⟩:=aPd_shape x
 obtain⟨k2,o2,p2,q2,s2,X2,hY⟩:=aPd_shape y
 rw[hX] at h1 ⊢
 rw[hY] at h2 ⊢
 rcases hk with rfl|rfl
 all_goals
  refine PC.enter 26 [.tmp 2] [1] Proofs.Tryz.func140 rfl rfl rfl rfl rfl (by simp) (AWp.of ?_);simp only[go_sem]
  repeat(first|((with_reducible refine AWp.ofC ?_ ?_);exact rfl;simp only[go_sem,Int.reduceEq])|((with_reducible refine an ?_ ?_);exact Au))
  refine Sd ?_
  refine(h1).val.use ?_;simp only[go_sem]
  cases a with
  | true =>
   refine Sd ?_
   refine Gc h2 ?_
   refine Sd ?_
   refine Wk ?_
   refine ret_eq ?_;simp only[go_sem]
  | false =>
   refine⟨fun h=>absurd h (by decide),GCall.use (ab false) (fun h=>absurd h (by decide)) ?_⟩
   simp only[go_sem]
   refine Wk ?_
   refine ret_eq ?_;simp only[go_sem]
theorem stable_yes (k:Int) (hk:k=13∨k=14∨k=21) (l:List Pd):PC Proofs.Tryz.prog 140 [aPd (nd k l)] (ab true):=by
 unfold nd
 simp only[aPd_mk]
 rcases hk with rfl|rfl|rfl
 all_goals
  refine PC.enter 26 [.tmp 2] [1] Proofs.Tryz.func140 rfl rfl rfl rfl rfl (by simp) (AWp.of ?_);simp only[go_sem]
  repeat(first|((with_reducible refine AWp.ofC ?_ ?_);exact rfl;simp only[go_sem,Int.reduceEq])|((with_reducible refine an ?_ ?_);exact Au))
  refine ret_eq ?_;simp only[go_sem]
theorem stable_bnd (k:Int) (hk:¬(k=13∨k=14∨k=21∨k=16∨k=17)) (l:List Pd) (b:Bool) (h:PC Proofs.Tryz.prog 214 [aPd (nd k l),ai (-1)] (ab b)):PC Proofs.Tryz.prog 140 [aPd (nd k l)] (ab b):=by
 have k1:¬k=13:=fun e=>hk (by omega)
 have k2:¬k=14:=fun e=>hk (by omega)
 have k3:¬k=21:=fun e=>hk (by omega)
 have k4:¬k=16:=fun e=>hk (by omega)
 have k5:¬k=17:=fun e=>hk (by omega)
 clear hk
 unfold nd at *
 simp only[aPd_mk] at *
 refine PC.enter 26 [.tmp 2] [1] Proofs.Tryz.func140 rfl rfl rfl rfl rfl (by simp) (AWp.of ?_);simp only[go_sem]
 refine W5 k1 k2 k3 k4 k5 ?_
 refine Sd ?_
 refine(h).val.use ?_;simp only[go_sem]
 refine Wk ?_
 refine ret_eq ?_;simp only[go_sem]
theorem classify_stable (t:Pd) (hp:PredOk t):szF t≤1000000→PC Proofs.Tryz.prog 140 [aPd t] (ab (stabF t)):=by
 refine PredOk.ind (P:=fun t=>PredOk t→szF t≤1000000→PC Proofs.Tryz.prog 140 [aPd t] (ab (stabF t))) ?_ ?_ ?_ ?_ ?_ t hp hp
 ·intro k hk _ _
  rw[stabF_nd,if_pos (by omega)]
  exact stable_yes k (by omega) _
 ·intro k x y hk _ _ hp hz
  rw[stabF_nd,if_neg (by omega),if_neg (by omega)]
  exact stable_bnd k (by omega) _ _ (classify_boundedG _ hp hz (-1) (.inr rfl))
 ·intro x _ _ hp hz
  rw[stabF_nd,if_neg (by omega),if_neg (by omega)]
  exact stable_bnd 15 (by omega) _ _ (classify_boundedG _ hp hz (-1) (.inr rfl))
 ·intro k x y hk hx hy ihx ihy _ hz
  rw[nd_szF] at hz
  simp only[szL] at hz
  rw[stabF_nd,if_neg (by omega),if_pos hk,stabL_2]
  exact stable_bin k hk x y _ _ (ihx hx (by omega)) (ihy hy (by omega))
 ·intro k x hk _ _ hp hz
  by_cases h21:k=21
  ·rw[stabF_nd,if_pos (by omega)]
   exact stable_yes k (by omega) _
  ·rw[stabF_nd,if_neg (by omega),if_neg (by omega)]
   exact stable_bnd k (by omega) _ _ (classify_boundedG _ hp hz (-1) (.inr rfl))
theorem meets_yes (t:Pd) (L B O:Bool) (pr:Int) (h:(L || B || O)=true) (h1:PC Proofs.Tryz.prog 136 [aPd t] (.tup [ai pr,ab L])) (h2:PC Proofs.Tryz.prog 214 [aPd t,ai 1] (ab B)) (h3:PC Proofs.Tryz.prog 215 [aPd t] (ab O)):PC Proofs.Tryz.prog 138 [aPd t] (ab true):=by
 obtain⟨k,n,p,q,s,l⟩:=t
 simp only[aPd_mk] at *
 cases L with
 | true =>
  refine PC.enter 43 [.tmp 2] [1] Proofs.Tryz.func138 rfl rfl rfl rfl rfl (by simp) (AWp.of ?_);simp only[go_sem]
  refine Wk ?_
  refine Sd ?_
  refine(h1).val.use ?_;simp only[go_sem]
  refine Wk ?_
  repeat(refine GCall.use (ab false) (fun h=>absurd h (by simp)) ?_;try simp only[go_sem])
  refine Wk ?_
  refine ret_eq ?_;simp only[go_sem]
 | false =>
  cases B with
  | true =>
   refine PC.enter 43 [.tmp 2] [1] Proofs.Tryz.func138 rfl rfl rfl rfl rfl (by simp) (AWp.of ?_);simp only[go_sem]
   refine Wk ?_
   refine Sd ?_
   refine(h1).val.use ?_;simp only[go_sem]
   refine Wk ?_
   refine Sd ?_
   refine Gc h2 ?_
   refine Sd ?_
   repeat(refine GCall.use (ab false) (fun h=>absurd h (by simp)) ?_;try simp only[go_sem])
   refine Wk ?_
   refine ret_eq ?_;simp only[go_sem]
  | false =>
   cases O with
   | false=>cases h
   | true =>
    refine PC.enter 43 [.tmp 2] [1] Proofs.Tryz.func138 rfl rfl rfl rfl rfl (by simp) (AWp.of ?_);simp only[go_sem]
    refine Wk ?_
    refine Sd ?_
    refine(h1).val.use ?_;simp only[go_sem]
    refine Wk ?_
    refine Sd ?_
    refine Gc h2 ?_
    refine Sd ?_
    refine Sd ?_
    refine Gc h3 ?_
    refine Sd ?_
    repeat(refine GCall.use (ab false) (fun h=>absurd h (by simp)) ?_;try simp only[go_sem])
    refine Wk ?_
    refine ret_eq ?_;simp only[go_sem]
theorem meets_no (k:Int) (hk:¬k=16) (l:List Pd) (pr:Int) (h1:PC Proofs.Tryz.prog 136 [aPd (nd k l)] (.tup [ai pr,ab false])) (h2:PC Proofs.Tryz.prog 214 [aPd (nd k l),ai 1] (ab false)) (h3:PC Proofs.Tryz.prog 215 [aPd (nd k l)] (ab false)):PC Proofs.Tryz.prog 138 [aPd (nd k l)] (ab (decide (k=18))):=by
 unfold nd at *
 simp only[aPd_mk] at *
 by_cases h18:k=18
 ·subst h18
  refine PC.enter 43 [.tmp 2] [1] Proofs.Tryz.func138 rfl rfl rfl rfl rfl (by simp) (AWp.of ?_);simp only[go_sem]
  refine Wk ?_
  refine Sd ?_
  refine(h1).val.use ?_;simp only[go_sem]
  refine Wk ?_
  refine Sd ?_
  refine Gc h2 ?_
  refine Sd ?_
  refine Sd ?_
  refine Gc h3 ?_
  refine Sd ?_
  repeat(refine GCall.use (ab false) (fun h=>absurd h (by simp)) ?_;try simp only[go_sem])
  repeat(first|((with_reducible refine AWp.ofC ?_ ?_);exact rfl;simp only[go_sem,Int.reduceEq])|((with_reducible refine an ?_ ?_);exact Au))
  refine ret_eq ?_;simp only[go_sem]
 ·rw[decide_eq_false h18]
  refine PC.enter 43 [.tmp 2] [1] Proofs.Tryz.func138 rfl rfl rfl rfl rfl (by simp) (AWp.of ?_);simp only[go_sem]
  refine Wk ?_
  refine Sd ?_
  refine(h1).val.use ?_;simp only[go_sem]
  refine Wk ?_
  refine Sd ?_
  refine Gc h2 ?_
  refine Sd ?_
  refine Sd ?_
  refine Gc h3 ?_
  refine Sd ?_
  repeat(first|refine GCall.use (ab false) (fun h=>h.elim) ?_|refine GCall.use (ab false) (fun h=>absurd h (by simp [h18,hk])) ?_);try simp only[go_sem]
  refine W2 h18 hk ?_
  repeat(refine GCall.use (ab false) (fun h=>h.elim) ?_;try simp only[go_sem])
  refine W2 h18 hk ?_
  refine ret_eq ?_;simp only[go_sem]
theorem meets_and (x y:Pd) (a b:Bool) (pr:Int) (h1:PC Proofs.Tryz.prog 136 [aPd (nd 16 [x,y])] (.tup [ai pr,ab false])) (h2:PC Proofs.Tryz.prog 214 [aPd (nd 16 [x,y]),ai 1] (ab false)) (h3:PC Proofs.Tryz.prog 215 [aPd (nd 16 [x,y])] (ab false)) (h4:PC Proofs.Tryz.prog 138 [aPd x] (ab a)) (h5:PC Proofs.Tryz.prog 138 [aPd y] (ab b)):PC Proofs.Tryz.prog 138 [aPd (nd 16 [x,y])] (ab (a && b)):=by
 have hN:aPd (nd 16 [x,y]) = .agg [ai 16,ai 0,ai 0,ai 0,astr ByteArray.empty,.sl 6 [aPd x,aPd y]]:=by unfold nd;rw[aPd_mk];rfl
 rw[hN] at h1 h2 h3 ⊢
 obtain⟨k1,o1,p1,q1,s1,X1,hX⟩:=aPd_shape x
 obtain⟨k2,o2,p2,q2,s2,X2,hY⟩:=aPd_shape y
 simp only[hX,hY] at *
 refine PC.enter 43 [.tmp 2] [1] Proofs.Tryz.func138 rfl rfl rfl rfl rfl (by simp) (AWp.of ?_);simp only[go_sem]
 refine Wk ?_
 refine Sd ?_
 refine(h1).val.use ?_;simp only[go_sem]
 refine Wk ?_
 refine Sd ?_
 refine Gc h2 ?_
 refine Sd ?_
 refine Sd ?_
 refine Gc h3 ?_
 refine Sd ?_
 refine Sd ?_
 refine GCall.use (ab a) (fun _=>⟨At,(h4).val.use ⟨rfl,rfl⟩⟩) ?_;simp only[go_sem,Int.reduceEq]
 refine Sd ?_
 cases a with
 | true =>
  refine Sd ?_
  refine GCall.use (ab b) (fun _=>⟨At,(h5).val.use ⟨rfl,rfl⟩⟩) ?_;simp only[go_sem,Int.reduceEq]
  refine Sd ?_
  repeat(first|((with_reducible refine AWp.ofC ?_ ?_);exact rfl;simp only[go_sem,Int.reduceEq])|((with_reducible refine an ?_ ?_);exact Au))
  refine ret_eq ?_;simp only[go_sem]
 | false =>
  refine GCall.use (ab false) (fun h=>absurd h (by simp)) ?_
  simp only[go_sem]
  repeat(first|((with_reducible refine AWp.ofC ?_ ?_);exact rfl;simp only[go_sem,Int.reduceEq])|((with_reducible refine an ?_ ?_);exact Au))
  refine ret_eq ?_;simp only[go_sem]
theorem classify_meets (t:Pd) (hp:PredOk t):szF t≤1000000→PC Proofs.Tryz.prog 138 [aPd t] (ab (lnrF t)):=by
 have main:∀(k:Int) (l:List Pd),¬k=16→PredOk (nd k l)→szF (nd k l)≤1000000→PC Proofs.Tryz.prog 138 [aPd (nd k l)] (ab (lnrF (nd k l))):=fun k l hk hp hz=>by
  have h1:=classify_local (nd k l) hz
  have h2:=classify_boundedG _ hp hz 1 (.inl rfl)
  have h3:=classify_both (nd k l) hp hz
  rw[lnrF_nd,decide_eq_false hk,Bool.false_and,Bool.or_false]
  generalize (locR (nd k l)).1=pr at *
  generalize (locR (nd k l)).2=L at *
  generalize bndF (nd k l) 1=B at *
  generalize bothF (nd k l)=O at *
  by_cases h:(L || B || O)=true
  ·rw[h,Bool.true_or]
   exact meets_yes _ L B O pr h h1 h2 h3
  ·have h:(L || B || O)=false:=by simpa using h
   rw[h,Bool.false_or]
   simp only[Bool.or_eq_false_iff] at h
   obtain⟨⟨rfl,rfl⟩,rfl⟩:=h
   exact meets_no k hk l pr h1 h2 h3
 refine PredOk.ind (P:=fun t=>PredOk t→szF t≤1000000→PC Proofs.Tryz.prog 138 [aPd t] (ab (lnrF t))) ?_ ?_ ?_ ?_ ?_ t hp hp
 ·intro k hk hp hz
  exact main k _ (by omega) hp hz
 ·intro k x y hk _ _ hp hz
  exact main k _ (by omega) hp hz
 ·intro x _ _ hp hz
  exact main 15 _ (by omega) hp hz
 ·intro k x y hk hx hy ihx ihy hp hz
  rcases hk with rfl|rfl
  ·have hz':=hz
   rw[nd_szF] at hz'
   simp only[szL] at hz'
   have h1:=classify_local (nd 16 [x,y]) hz
   have h2:=classify_boundedG _ hp hz 1 (.inl rfl)
   have h3:=classify_both (nd 16 [x,y]) hp hz
   have h4:=ihx hx (by omega)
   have h5:=ihy hy (by omega)
   rw[lnrF_nd,lnrL_2]
   generalize (locR (nd 16 [x,y])).1=pr at *
   generalize (locR (nd 16 [x,y])).2=L at *
   generalize bndF (nd 16 [x,y]) 1=B at *
   generalize bothF (nd 16 [x,y])=O at *
   by_cases h:(L || B || O)=true
   ·rw[h,Bool.true_or,Bool.true_or]
    exact meets_yes _ L B O pr h h1 h2 h3
   ·have h:(L || B || O)=false:=by simpa using h
    rw[h]
    simp only[Bool.or_eq_false_iff] at h
    obtain⟨⟨rfl,rfl⟩,rfl⟩:=h
    exact meets_and x y _ _ pr h1 h2 h3 h4 h5
  ·exact main 17 _ (by omega) hp hz
 ·intro k x hk _ _ hp hz
  exact main k _ (by omega) hp hz
theorem joins_yes (t:Pd) (L B O:Bool) (pr:Int) (h:(L || B || O)=true) (h1:PC Proofs.Tryz.prog 136 [aPd t] (.tup [ai pr,ab L])) (h2:PC Proofs.Tryz.prog 140 [aPd t] (ab B)) (h3:PC Proofs.Tryz.prog 215 [aPd t] (ab O)):PC Proofs.Tryz.prog 139 [aPd t] (ab true):=by
 obtain⟨k,n,p,q,s,l⟩:=t
 simp only[aPd_mk] at *
 cases L with
 | true =>
  refine PC.enter 38 [.tmp 2] [1] Proofs.Tryz.func139 rfl rfl rfl rfl rfl (by simp) (AWp.of ?_);simp only[go_sem]
  refine Wk ?_
  refine Sd ?_
  refine(h1).val.use ?_;simp only[go_sem]
  refine Wk ?_
  repeat(refine GCall.use (ab false) (fun h=>absurd h (by simp)) ?_;try simp only[go_sem])
  refine Wk ?_
  refine ret_eq ?_;simp only[go_sem]
 | false =>
  cases B with
  | true =>
   refine PC.enter 38 [.tmp 2] [1] Proofs.Tryz.func139 rfl rfl rfl rfl rfl (by simp) (AWp.of ?_);simp only[go_sem]
   refine Wk ?_
   refine Sd ?_
   refine(h1).val.use ?_;simp only[go_sem]
   refine Wk ?_
   refine Sd ?_
   refine Gc h2 ?_
   refine Sd ?_
   repeat(refine GCall.use (ab false) (fun h=>absurd h (by simp)) ?_;try simp only[go_sem])
   refine Wk ?_
   refine ret_eq ?_;simp only[go_sem]
  | false =>
   cases O with
   | false=>cases h
   | true =>
    refine PC.enter 38 [.tmp 2] [1] Proofs.Tryz.func139 rfl rfl rfl rfl rfl (by simp) (AWp.of ?_);simp only[go_sem]
    refine Wk ?_
    refine Sd ?_
    refine(h1).val.use ?_;simp only[go_sem]
    refine Wk ?_
    refine Sd ?_
    refine Gc h2 ?_
    refine Sd ?_
    refine Sd ?_
    refine Gc h3 ?_
    refine Sd ?_
    repeat(refine GCall.use (ab false) (fun h=>absurd h (by simp)) ?_;try simp only[go_sem])
    refine Wk ?_
    refine ret_eq ?_;simp only[go_sem]
theorem joins_no (k:Int) (hk:¬k=16) (l:List Pd) (pr:Int) (h1:PC Proofs.Tryz.prog 136 [aPd (nd k l)] (.tup [ai pr,ab false])) (h2:PC Proofs.Tryz.prog 140 [aPd (nd k l)] (ab false)) (h3:PC Proofs.Tryz.prog 215 [aPd (nd k l)] (ab false)):PC Proofs.Tryz.prog 139 [aPd (nd k l)] (ab false):=by
 unfold nd at *
 simp only[aPd_mk] at *
 refine PC.enter 38 [.tmp 2] [1] Proofs.Tryz.func139 rfl rfl rfl rfl rfl (by simp) (AWp.of ?_);simp only[go_sem]
 refine Wk ?_
 refine Sd ?_
 refine(h1).val.use ?_;simp only[go_sem]
 refine Wk ?_
 refine Sd ?_
 refine Gc h2 ?_
 refine Sd ?_
 refine Sd ?_
 refine Gc h3 ?_
 refine Sd ?_
 repeat(first|refine GCall.use (ab false) (fun h=>h.elim) ?_|refine GCall.use (ab false) (fun h=>absurd h (by simp [hk])) ?_);try simp only[go_sem]
 refine W1 hk ?_
 refine ret_eq ?_;simp only[go_sem]
theorem joins_and (x y:Pd) (a b:Bool) (pr:Int) (h1:PC Proofs.Tryz.prog 136 [aPd (nd 16 [x,y])] (.tup [ai pr,ab false])) (h2:PC Proofs.Tryz.prog 140 [aPd (nd 16 [x,y])] (ab false)) (h3:PC Proofs.Tryz.prog 215 [aPd (nd 16 [x,y])] (ab false)) (h4:PC Proofs.Tryz.prog 139 [aPd x] (ab a)) (h5:PC Proofs.Tryz.prog 139 [aPd y] (ab b)):PC Proofs.Tryz.prog 139 [aPd (nd 16 [x,y])] (ab (a && b)):=by
 have hN:aPd (nd 16 [x,y]) = .agg [ai 16,ai 0,ai 0,ai 0,astr ByteArray.empty,.sl 6 [aPd x,aPd y]]:=by unfold nd;rw[aPd_mk];rfl
 rw[hN] at h1 h2 h3 ⊢
 obtain⟨k1,o1,p1,q1,s1,X1,hX⟩:=aPd_shape x
 obtain⟨k2,o2,p2,q2,s2,X2,hY⟩:=aPd_shape y
 simp only[hX,hY] at *
 refine PC.enter 38 [.tmp 2] [1] Proofs.Tryz.func139 rfl rfl rfl rfl rfl (by simp) (AWp.of ?_);simp only[go_sem]
 refine Wk ?_
 refine Sd ?_
 refine(h1).val.use ?_;simp only[go_sem]
 refine Wk ?_
 refine Sd ?_
 refine Gc h2 ?_
 refine Sd ?_
 refine Sd ?_
 refine Gc h3 ?_
 refine Sd ?_
 refine Sd ?_
 refine GCall.use (ab a) (fun _=>⟨At,(h4).val.use ⟨rfl,rfl⟩⟩) ?_;simp only[go_sem,Int.reduceEq]
 refine Sd ?_
 cases a with
 | true =>
  refine Sd ?_
  refine GCall.use (ab b) (fun _=>⟨At,(h5).val.use ⟨rfl,rfl⟩⟩) ?_;simp only[go_sem,Int.reduceEq]
  refine Sd ?_
  repeat(first|((with_reducible refine AWp.ofC ?_ ?_);exact rfl;simp only[go_sem,Int.reduceEq])|((with_reducible refine an ?_ ?_);exact Au))
  refine ret_eq ?_;simp only[go_sem]
 | false =>
  refine GCall.use (ab false) (fun h=>absurd h (by simp)) ?_
  simp only[go_sem]
  repeat(first|((with_reducible refine AWp.ofC ?_ ?_);exact rfl;simp only[go_sem,Int.reduceEq])|((with_reducible refine an ?_ ?_);exact Au))
  refine ret_eq ?_;simp only[go_sem]
theorem classify_joins (t:Pd) (hp:PredOk t):szF t≤1000000→PC Proofs.Tryz.prog 139 [aPd t] (ab (plnF t)):=by
 have main:∀(k:Int) (l:List Pd),¬k=16→PredOk (nd k l)→szF (nd k l)≤1000000→PC Proofs.Tryz.prog 139 [aPd (nd k l)] (ab (plnF (nd k l))):=fun k l hk hp hz=>by
  have h1:=classify_local (nd k l) hz
  have h2:=classify_stable _ hp hz
  have h3:=classify_both (nd k l) hp hz
  rw[plnF_nd,decide_eq_false hk,Bool.false_and,Bool.or_false]
  generalize (locR (nd k l)).1=pr at *
  generalize (locR (nd k l)).2=L at *
  generalize stabF (nd k l)=B at *
  generalize bothF (nd k l)=O at *
  by_cases h:(L || B || O)=true
  ·rw[h]
   exact joins_yes _ L B O pr h h1 h2 h3
  ·have h:(L || B || O)=false:=by simpa using h
   rw[h]
   simp only[Bool.or_eq_false_iff] at h
   obtain⟨⟨rfl,rfl⟩,rfl⟩:=h
   exact joins_no k hk l pr h1 h2 h3
 refine PredOk.ind (P:=fun t=>PredOk t→szF t≤1000000→PC Proofs.Tryz.prog 139 [aPd t] (ab (plnF t))) ?_ ?_ ?_ ?_ ?_ t hp hp
 ·intro k hk hp hz
  exact main k _ (by omega) hp hz
 ·intro k x y hk _ _ hp hz
  exact main k _ (by omega) hp hz
 ·intro x _ _ hp hz
  exact main 15 _ (by omega) hp hz
 ·intro k x y hk hx hy ihx ihy hp hz
  rcases hk with rfl|rfl
  ·have hz':=hz
   rw[nd_szF] at hz'
   simp only[szL] at hz'
   have h1:=classify_local (nd 16 [x,y]) hz
   have h2:=classify_stable _ hp hz
   have h3:=classify_both (nd 16 [x,y]) hp hz
   have h4:=ihx hx (by omega)
   have h5:=ihy hy (by omega)
   rw[plnF_nd,plnL_2]
   generalize (locR (nd 16 [x,y])).1=pr at *
   generalize (locR (nd 16 [x,y])).2=L at *
   generalize stabF (nd 16 [x,y])=B at *
   generalize bothF (nd 16 [x,y])=O at *
   by_cases h:(L || B || O)=true
   ·rw[h,Bool.true_or]
    exact joins_yes _ L B O pr h h1 h2 h3
   ·have h:(L || B || O)=false:=by simpa using h
    rw[h]
    simp only[Bool.or_eq_false_iff] at h
    obtain⟨⟨rfl,rfl⟩,rfl⟩:=h
    exact joins_and x y _ _ pr h1 h2 h3 h4 h5
  ·exact main 17 _ (by omega) hp hz
 ·intro k x hk _ _ hp hz
  exact main k _ (by omega) hp hz
end Go.AL
end
