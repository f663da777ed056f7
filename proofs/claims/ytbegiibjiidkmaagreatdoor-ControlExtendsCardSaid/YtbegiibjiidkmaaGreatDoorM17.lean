/- Texts of this claim's proof: WY22, WY21, WY12. No condition. -/
import Derived.Test.YtbegiibjiidkmaaGreatDoorM12
import Derived.Test.YtbegiibjiidkmaaGreatDoorM10
import Derived.Test.YtbegiibjiidkmaaGreatDoorM15
import Derived.Test.YtbegiibjiidkmaaGreatDoorM13
section
namespace Go.AL
open Go Go.RowKit Proofs.Tryz
set_option maxRecDepth 4000
theorem bits_words (n:Nat)(hn:n<=1000000):PC prog 82 [ai n] (ai (nW n:Nat)):=by
 have hm:IntKind.i64.wrap (((n:Int)+64 - 1).tdiv 64)=(nW n:Nat):=by
  have:((n:Int)+64 - 1).tdiv 64=((nW n:Nat):Int):=by
   rw[show (n:Int)+64 - 1=((n+63:Nat):Int) by omega];unfold nW;rfl
  rw[this]
  exact IntWalk.i64_in _ (by unfold nW;omega)
 refine PE 7 [.tmp 2] [] func82 ?_;simp only[go_sem]
 refine W1 hm ?_
 exact Rz
theorem bits_inside (n:Nat)(ws:List AV)(i:Int):PC prog 83 [.agg [ai n,.sl 1 ws],ai i] (ab (decide (0<=i) && decide (i<n))):=by
 refine PE 13 [.tmp 4] [2] func83 ?_;simp only[go_sem]
 refine Wk ?_
 exact Rz
theorem filter_step {n k:Nat}{f:Nat->Bool}(hk:k<((List.range n).filter f).length){j:Nat}(hjn:j<=n)(hj:(List.range j).filter f=((List.range n).filter f).take k) :
  ∃x,((List.range n).filter f)[k]?=some x/\x<n/\f x=true/\j<=x/\(∀i,j<=i->i<x->f i=false)/\(List.range (x+1)).filter f=((List.range n).filter f).take (k+1):=by
 obtain⟨d,rfl⟩:∃d,n=j+d:=⟨n - j,by omega⟩
 have hadd:∀m,(List.range (j+m)).filter f=(List.range j).filter f ++ ((List.range m).map (j + ·)).filter f:=fun m=>by rw[List.range_add,List.filter_append]
 have hA:((List.range j).filter f).length=k:=by rw[hj,List.length_take];omega
 have hno:∀m,(∀i,i<m->f (j+i)=false)->((List.range m).map (j + ·)).filter f=[]:=fun m h=>by
  rw[List.filter_eq_nil_iff]
  intro a ha
  obtain⟨i,hi,rfl⟩:=List.mem_map.1 ha
  rw[h i (List.mem_range.1 hi)];decide
 have hex:∃i,i<d/\f (j+i)=true:=by
  apply Classical.byContradiction
  intro h
  have h2:=hno d fun i hi=>by
   cases hf:f (j+i) with
   | false=>rfl
   | true=>exact absurd ⟨i,hi,hf⟩ h
  rw[hadd,h2,List.append_nil,hA] at hk
  omega
 obtain⟨i,⟨hi,hfi⟩,hmin⟩:=least hex
 have hlow:∀i',i'<i->f (j+i')=false:=fun i' h=>by
  cases hf:f (j+i') with
  | false=>rfl
  | true=>have:=hmin i' ⟨by omega,hf⟩;omega
 have hone:((List.range (i+1)).map (j + ·)).filter f=[j+i]:=by
  rw[List.range_succ,List.map_append,List.filter_append,hno i hlow,List.nil_append]
  show List.filter f [j+i]=[j+i]
  rw[List.filter_cons_of_pos hfi];rfl
 have hd:∃B,((List.range d).map (j + ·)).filter f=(j+i) :: B:=by
  obtain⟨e,rfl⟩:∃e,d=(i+1)+e:=⟨d - (i+1),by omega⟩
  rw[List.range_add,List.map_append,List.filter_append,hone]
  exact⟨_,rfl⟩
 obtain⟨B,hB⟩:=hd
 refine⟨j+i,?_,by omega,hfi,by omega,fun i' h1 h2=>?_,?_⟩
 ·rw[hadd,hB,List.getElem?_append_right (by omega),hA,Nat.sub_self];rfl
 ·have:=hlow (i' - j) (by omega)
  rwa [show j+(i' - j)=i' by omega] at this
 ·rw[show j+i+1=j+(i+1) by omega,hadd,hone,hadd d,hB,List.take_append,hA,List.take_of_length_le (by omega),show k+1 - k=1 by omega];rfl
theorem words_skip {f:Nat->Bool}{n j:Nat} : ∀ {x:Nat},j<=x->(∀i,j<=i->i<x->f i=false)->wordsF f n x=wordsF f n j
 | 0,h,_=>by have:j=0:=by omega
             subst this;rfl
 | x+1,h,hf=>by
  by_cases e:j=x+1
  ·subst e;rfl
  ·rw[words_no (hf x (by omega) (by omega))]
   exact words_skip (by omega) fun i h1 h2=>hf i h1 (by omega)
set_option maxHeartbeats 1000000 in
theorem bits_Of (n:Nat)(hn:n<=512)(f:Nat->Bool):PC prog 42 [ai n,.sl 1 (((List.range n).filter f).map fun j:Nat=>ai j)] (.tup [aBits n (wordsF f n n),ai 0]):=by
 have hwn:=bits_words n (by omega)
 have hnW:nW n<=1000000:=by unfold nW;omega
 have hlm:(((List.range n).filter f).map fun j:Nat=>ai (j:Int)).length=((List.range n).filter f).length:=List.length_map _
 have hll:((List.range n).filter f).length<=n:=Nat.le_trans (List.length_filter_le _ _) (by simp)
 have hn1:¬(512:Int)<n:=by omega
 have hn0:¬(n:Int)<0:=by omega
 refine PE 45 [.cell 4 110,.tmp 5] [6] func42 ?_;simp only[go_sem]
 intro b4
 refine W2 hn0 hn1 ?_
 refine Sd ?_
 refine Vu hwn ?_
 refine Wk ?_
 intro bw gw
 refine Wk ?_
 intro b6 g1 g2
 refine W1 hlm ?_
 have hwz:=words_zero f n
 have hrep:List.replicate (nW n) (AV.v (Value.int IntKind.u64 0))=(wordsF f n 0).map fun w:Nat=>au64 (w:Int):=by rw[hwz,List.map_replicate];rfl
 rw[hrep]
 refine AWp.range' ((List.range n).filter f).length [] [4,6,21,22] (fun k vs L=>vs=[]/\∃j,j<=n/\(List.range j).filter f=((List.range n).filter f).take k/\L=[(bw,.row 120 1 ((wordsF f n j).map fun w:Nat=>au64 (w:Int)) (nW n)),(b4,.row 110 2 [.agg [ai 0,anil]] 1)]) (by omega) rfl rfl rfl ⟨rfl,0,Nat.zero_le _,by rw[List.take_zero];rfl,rfl⟩ ?_ ?_
 ·rintro k vs L hk - ⟨rfl,j,hjn,hj,rfl⟩
  obtain⟨x,hx,hxn,hfx,hjx,hno,hnext⟩:=filter_step hk hjn hj
  have hgx:(((List.range n).filter f).map fun j:Nat=>ai (j:Int)).getD k .any=ai (x:Nat):=by rw[List.getD_eq_getElem?_getD,List.getElem?_map,hx];rfl
  have hws0:=words_skip (f:=f) (n:=n) hjx hno
  rw[<- hws0]
  have hws:=words_set (f:=f) (n:=n) (j:=x) hfx
  have hq:=quo64 x (by omega)
  have hr6:=rem64 x
  have hjm:x / 64<nW n:=by unfold nW;omega
  have hwl:=word_lt (f:=f) (j:=x)
  have hgw:((wordsF f n x).map fun w:Nat=>au64 (w:Int)).getD (x / 64) .any=au64 (wordOf f (x / 64) x):=by
   rw[List.getD_eq_getElem?_getD,List.getElem?_map,words_get hjm];rfl
  have hcv:IntKind.u64.wrap ((x % 64:Nat):Int)=((x % 64:Nat):Int):=wrap_u64n (Nat.lt_of_lt_of_le (Nat.mod_lt x (by decide)) (by decide))
  have hsh:=shl_bit (b:=x % 64) (Nat.mod_lt x (by decide))
  have had:=or_bit hwl (Nat.mod_lt x (by decide))
  have hlen:((wordsF f n x).map fun w:Nat=>au64 (w:Int)).length=nW n:=by rw[List.length_map,words_len]
  have hset:((wordsF f n x).map fun w:Nat=>au64 (w:Int)).set (x / 64) (au64 ((wordOf f (x / 64) x+2 ^ (x % 64):Nat):Int))=(wordsF f n (x+1)).map fun w:Nat=>au64 (w:Int):=by rw[hws,List.map_set]
  have hin:=bits_inside n ((wordsF f n x).map fun w:Nat=>au64 (w:Int)) (x:Nat)
  have hinb:(decide ((0:Int)<=(x:Nat)) && decide (((x:Nat):Int)<n))=true:=by simp;omega
  rw[hinb] at hin
  generalize ((wordsF f n x).map fun w:Nat=>au64 (w:Int))=ys at *
  generalize hd:x / 64=jd at *
  generalize hmd:x % 64=jm at *
  have hvw:Vws [(bw,.row 120 1 ys (nW n)),(b4,.row 110 2 [.agg [ai 0,anil]] 1)] [.agg [ai n,.ls bw 1 0 (nW n) (nW n)],ai x] [.agg [ai n,.sl 1 ys],ai x]:=Vws.cons (.mkAgg (Vws.cons (.refl _) (Vws.cons (Vw.ofLs (t:=120) (cap:=nW n) (if_pos rfl) hlen.symm) .nil))) (Vws.refl _)
  simp only[go_sem]
  refine W1 hgx ?_
  refine(PC.view hvw hin (Own.v _) ?_).val
  simp only[go_sem]
  refine W1 hgx ?_
  refine Sq ?_
  refine AWp.mix mixed [0,1,2,3,4,6,7,8] (.step 5 (.step 9 (.step 10 (.step 11 .done .done) .done) .done) .done) (by kernel_rfl) ?_;simp only[go_sem,hq,hr6,hgw,hcv,hsh,had,hlen]
  refine Sd ?_
  refine W1 hgw ?_
  exact⟨_,.refl _,x+1,by omega,hnext,by rw[<- hset]⟩
 ·rintro vs L - ⟨rfl,j,hjn,hj,rfl⟩
  rw[List.take_length] at hj
  have hws:wordsF f n n=wordsF f n j:=words_skip hjn fun i h1 h2=>by
   cases hf:f i with
   | false=>rfl
   | true =>
    have hm:i ∈ (List.range n).filter f:=List.mem_filter.2 ⟨List.mem_range.2 h2,hf⟩
    rw[<- hj] at hm
    have:=List.mem_range.1 (List.mem_filter.1 hm).1
    omega
  rw[hws]
  have hwl:((wordsF f n j).map fun w:Nat=>au64 (w:Int)).length=nW n:=by rw[List.length_map,words_len]
  have hb:aBits n (wordsF f n j) = .agg [ai n,.sl 1 ((wordsF f n j).map fun w:Nat=>au64 (w:Int))]:=rfl
  rw[hb]
  generalize ((wordsF f n j).map fun w:Nat=>au64 (w:Int))=ys at *
  have n1:¬b4=bw:=by omega
  have n2:¬bw=b4:=by omega
  simp only[go_sem]
  refine W2 n1 n2 ?_
  refine ret_view [true,true] ?_;simp only[go_sem]
  simp only[go_sem,n1]
  exact .mkTup (Vws.cons (.mkAgg (Vws.cons (.refl _) (Vws.cons (Vw.ofLs (t:=120) (cap:=nW n) (if_pos rfl) hwl.symm) .nil))) (Vws.refl _))
theorem ref44_Same (n:Nat)(rs:List (List Nat))(hl:rs.length<=1000000)(hw:∀r ∈ rs,r.length<=1000000):PC prog 15 [aRelR n rs,aRelR n rs] (ab true):=by
 unfold aRelR
 refine PE 65 [.tmp 4] [2,3,6,7] func15 ?_;simp only[go_sem]
 refine Wk ?_
 refine AWp.block (AWp.count 5 rs.length [] [2,3] (fun k vs L=>L=[]) rfl rfl rfl ?_)
 rintro k vs L hk - rfl
 simp only[go_sem]
 refine Wk ?_
 constructor<;>intro h
 ·have hkl:k<rs.length:=by omega
  have hg:(rs.map (aBits n)).getD k .any = .agg [ai n,.sl 1 (rs[k].map fun w:Nat=>au64 (w:Int))]:=getD_map hkl
  have hwk:=hw _ (List.getElem_mem hkl)
  generalize rs[k]=ws at *
  refine AWp.seq (AWp.block ?_)
  refine AWp.cut [2,3,5,6,7] (fun vs L=>L=[]/\vs=[.rp 1 [.agg [.sl 2 (rs.map (aBits n))]] 0 0,.rp 1 [.agg [.sl 2 (rs.map (aBits n))]] 0 0,ai k,.rp 2 [.agg [ai n,.sl 1 (ws.map fun w:Nat=>au64 (w:Int))]] 0 0,.rp 2 [.agg [ai n,.sl 1 (ws.map fun w:Nat=>au64 (w:Int))]] 0 0]) ?_ ?_
  ·refine Sq ?_
   refine AWp.mix mixed [0,1,2,3,4,5,6,7,8,9] (.step 10 (.step 11 (.step 12 (.step 13 .done .done) .done) .done) (.step 11 (.step 10 (.step 12 (.step 13 .done .done) .done) .done) .done)) (by kernel_rfl) ?_;simp only[go_sem,hg]
   refine Sd ?_
   repeat' (first|(with_reducible refine And.intro ?_ ?_)|intro _)
   all_goals first|omega|exact⟨_,.refl _,rfl⟩|skip
   all_goals rename_i b b1 g1
   all_goals have n1:¬b=b1:=by omega
   all_goals have n2:¬b1=b:=by omega
   all_goals simp only[go_sem,n1,n2,hg]
   all_goals refine Sd ?_
   all_goals first|exact⟨_,.refl _,rfl⟩|trace_state
  ·rintro vs L - ⟨rfl,rfl⟩
   simp only[go_sem]
   refine Wk ?_
   refine AWp.block (AWp.count 8 ws.length [] [2,3,5,6,7] (fun j vs L=>L=[]) rfl rfl rfl ?_)
   rintro j vs L hj - rfl
   simp only[go_sem]
   refine Wk ?_
   constructor<;>intro h2
   ·have hjl:j<ws.length:=by omega
    have hgj:=getD_map (f:=fun w:Nat=>au64 (w:Int)) hjl
    refine AWp.seq (AWp.block (AWp.seq ?_))
    refine Sq ?_
    refine AWp.read mixed [0,1,2,3,4,5,6,7,8,9,10] (by kernel_rfl) ?_;simp only[go_sem,hgj]
    refine Sd ?_
    refine Wk ?_
    exact⟨_,.refl _,rfl⟩
   ·refine Wk ?_
    exact⟨_,.refl _,rfl⟩
 ·refine Wk ?_
  exact Rz
theorem off_mono {ps:List Pr}{q:Nat} : ∀ {p:Nat},q<=p->p<=ps.length->off ps q<=off ps p
 | 0,h,_=>by have:q=0:=by omega
             subst this;exact Nat.le_refl _
 | p+1,h,hp=>by
  by_cases e:q=p+1
  ·subst e;exact Nat.le_refl _
  ·have:=off_mono (ps:=ps) (q:=q) (p:=p) (by omega) (by omega)
   rw[off_succ (show p<ps.length by omega)];omega
def aSts (l:List Stp):AV:=.sl 3 (l.map aStp)
def aStss (l:List (List Stp)):AV:=.sl 1 (l.map aSts)
theorem sts_cloneO (l:List (List Stp))(hl:l.length<=1000000):MCalls prog 96 [aStss l] [] fun r L=>AppSt 72 1 (l.map aSts) r L:=by
 refine MCalls.enter' 8 [.tmp 2] [] func96 rfl rfl rfl rfl rfl (by simp) (AWp.of ?_);simp only[go_sem]
 repeat(first|((with_reducible refine AWp.ofC ?_ ?_);exact rfl;simp only[go_sem,aStss])|((with_reducible refine an ?_ ?_);exact Au))
 intro b hb
 refine Wk ?_
 refine⟨fun ht=>?_,fun hf=>?_⟩
 ·have:l=[]:=by
   by_cases h:l=[]
   ·exact h
   ·rw[hb (by simpa using h)] at ht;cases ht
  subst this
  repeat(first|((with_reducible refine AWp.ofC ?_ ?_);exact rfl;simp only[go_sem,aStss])|((with_reducible refine an ?_ ?_);exact Au))
  refine ret_own ?_
  simp only[go_sem]
  exact .nil
 ·repeat(first|((with_reducible refine AWp.ofC ?_ ?_);exact rfl;simp only[go_sem,aStss])|((with_reducible refine an ?_ ?_);exact Au))
  intros
  refine Sd ?_
  intros
  repeat(first|((with_reducible refine AWp.ofC ?_ ?_);exact rfl;simp only[go_sem,aStss])|((with_reducible refine an ?_ ?_);exact Au))
  refine ret_own ?_
  simp only[go_sem]
  have e:l.length=(l.map aSts).length:=by simp
  rw[e];exact .row _ _ _
theorem sts_indexFunc (l:List (List Stp))(hl:l.length<=1000000)(g:AV)(hgf:fo g=(True,g))(p:(List Stp)->Bool)(hg:∀x ∈ l,PV prog g [aSts x] (ab (p x))) :
  PC prog 143 [aStss l,g] (ai (match l.findIdx? p with|some i=>(i:Int)|none=>-1)):=by
 refine PE 19 [.tmp 4] [] func143 ?_;simp only[go_sem]
 refine Sd ?_
 refine AWp.of ?_;simp only[go_sem,aStss]
 refine AWp.range' l.length [] [0,1,7] (fun k vs L=>L=[]/\∀i (h:i<l.length),i<k->p l[i]=false) (by omega) rfl rfl rfl ⟨rfl,by omega⟩ ?_ ?_
 ·rintro k vs L' hk hvs ⟨rfl,hI⟩
  simp only[go_sem]
  refine Sd ?_
  refine Ao ?_
  have hgk:=hg l[k] (List.getElem_mem hk)
  try simp only[go_sem,aSts] at hgk
  refine Sd ?_
  refine AWp.of ?_;simp only[go_sem,getD_map hk,hgf,aSts]
  refine⟨⟨by omega,by omega⟩,hk,hgk.use (AWp.of ?_)⟩;simp only[go_sem]
  refine⟨fun ht=>?_,fun hf=>?_⟩
  ·refine Sd ?_
   refine Ao ?_
   refine Rq ?_
   have:l.findIdx? p=some k:=by rw[List.findIdx?_eq_some_iff_getElem];exact⟨hk,ht,fun j hj=>by simpa using hI j (by omega) hj⟩
   rw[this]
  ·refine⟨[],List.Sublist.refl _,rfl,fun i h hi=>?_⟩
   by_cases e:i=k
   ·subst e;exact hf
   ·exact hI i h (by omega)
 ·rintro vs L' hvs ⟨rfl,hI⟩
  simp only[go_sem]
  refine Sd ?_
  refine Ao ?_
  refine Sd ?_
  refine Ao ?_
  refine Rq ?_
  have:l.findIdx? p=none:=by rw[List.findIdx?_eq_none_iff];intro x hx;obtain⟨i,hi,rfl⟩:=List.getElem_of_mem hx;exact hI i hi hi
  rw[this]
theorem sts_containsFunc (l:List (List Stp))(hl:l.length<=1000000)(g:AV)(hgf:fo g=(True,g))(p:(List Stp)->Bool)(hg:∀x ∈ l,PV prog g [aSts x] (ab (p x))) :
  PC prog 97 [aStss l,g] (ab (l.any p)):=by
 refine PE 9 [.tmp 4] [] func97 ?_;simp only[go_sem]
 refine Sd ?_
 refine AWp.of ?_;simp only[go_sem,hgf,aStss]
 refine(sts_indexFunc l hl g hgf p hg).val.use ?_
 simp only[go_sem]
 refine Sd ?_
 refine Ao ?_
 refine Rq ?_
 congr 2;exact findIdx_any l p
section
variable {ps:List Pr} (hv:validF ps=true)
include hv
theorem ord_at {p:Nat}(hp:p<ps.length){i:Nat}(hi:i<nev ps p):((List.range ps.length).map fun p=>AV.sl 1 ((exF ps [] p).map aInts)).getD p .any = .sl 1 ((exF ps [] p).map aInts)/\((exF ps [] p).map aInts).length=nev ps p+1/\((exF ps [] p).map aInts).getD (i+1) .any = .sl 1 ((ptF ps p i).map ai)/\(ptF ps p i).length=ps.length:=by
 have hW:=nil_whl hv p hp
 have hpt:=ex_nil_pt hv (nil_whl hv) hp hi
 refine⟨map_range_getD hp _,by rw[List.length_map,hW],?_,(isF_iff.1 (pt_isN hv hp hi)).1⟩
 rw[getD_map (by rw[hW];omega)]
 unfold stOf at hpt
 rw[List.getD_eq_getElem?_getD,List.getElem?_eq_getElem (by rw[hW];omega),Option.getD_some] at hpt
 rw[hpt];rfl
variable (hs:Sm ps)
include hs
theorem order_begins (w:Bool)(a o:Stp)(ha:a.1<ps.length/\a.2.2<=nev ps a.1)(ho:o.1<ps.length/\o.2.2<=nev ps o.1)(haf:a.2.1<=1000001) :
  PC prog 99 [aOrd ps (exF ps []) w,aStp a,aStp o] (ab (bgN ps a o)):=by
 obtain⟨a1,a2,a3⟩:=a
 obtain⟨o1,o2,o3⟩:=o
 obtain⟨ha1,ha3⟩:=ha
 obtain⟨ho1,ho3⟩:=ho
 simp only at ha1 ha3 ho1 ho3 haf
 have hB:bgN ps (a1,a2,a3) (o1,o2,o3)=(decide (a2=0) || (decide (o3=nev ps o1) || decide ((a2:Int)<=cAt (ptF ps o1 o3) a1))):=rfl
 have e1:aStp (a1,a2,a3) = .agg [ai a1,ai a2,ai a3]:=rfl
 have e2:aStp (o1,o2,o3) = .agg [ai o1,ai o2,ai o3]:=rfl
 have hps:=hs.procs
 have hgp:=getD_map (f:=aPr) ho1
 have hnv:=nev_get ho1
 have hel:=hs.evs _ (List.getElem_mem ho1)
 have e3:((a2:Int)=0)↔a2=0:=by omega
 have e4:((o3:Int)=ps[o1].evs.length)↔o3=nev ps o1:=by omega
 rw[e1,e2,hB]
 unfold aOrd
 by_cases h1:a2=0
 ·have h0:(decide (a2=0) || (decide (o3=nev ps o1) || decide ((a2:Int)<=cAt (ptF ps o1 o3) a1)))=true:=by simp [h1]
  rw[h0]
  have h1':(a2:Int)=0:=by omega
  refine PE 46 [.tmp 6] [4,5] func99 ?_;simp only[go_sem]
  refine Wk ?_
  refine Sq ?_
  refine AWp.read mixed [0,1,2,3,4,5,6,7,8,9,10,11,12,13,14,15,16,17,18] (by kernel_rfl) ?_;simp only[go_sem,hgp,h1']
  refine Sd ?_
  refine Wk ?_
  exact Rz
 ·by_cases h2:o3=nev ps o1
  ·have h0:(decide (a2=0) || (decide (o3=nev ps o1) || decide ((a2:Int)<=cAt (ptF ps o1 o3) a1)))=true:=by simp [h2]
   rw[h0]
   have h1':¬(a2:Int)=0:=by omega
   have h2':(o3:Int)=ps[o1].evs.length:=by omega
   refine PE 46 [.tmp 6] [4,5] func99 ?_;simp only[go_sem]
   refine Wk ?_
   refine Sq ?_
   refine AWp.read mixed [0,1,2,3,4,5,6,7,8,9,10,11,12,13,14,15,16,17,18] (by kernel_rfl) ?_;simp only[go_sem,hgp,h1',h2']
   refine Sd ?_
   refine Wk ?_
   exact Rz
  ·have h0:(decide (a2=0) || (decide (o3=nev ps o1) || decide ((a2:Int)<=cAt (ptF ps o1 o3) a1)))=decide ((a2:Int)<=cAt (ptF ps o1 o3) a1):=by simp [h1,h2]
   rw[h0]
   have h1':¬(a2:Int)=0:=by omega
   have h2':¬(o3:Int)=ps[o1].evs.length:=by omega
   obtain⟨g1,g2,g3,g4⟩:=ord_at hv ho1 (show o3<nev ps o1 by omega)
   have g5:((ptF ps o1 o3).map ai).getD a1 .any=ai (cAt (ptF ps o1 o3) a1):=by rw[getD_map (by omega),cAt_nat (by omega)]
   have g6:((o3:Int)+1).toNat=o3+1:=by omega
   have hTl:((List.range ps.length).map fun p=>AV.sl 1 ((exF ps [] p).map aInts)).length=ps.length:=by simp
   generalize ((List.range ps.length).map fun p=>AV.sl 1 ((exF ps [] p).map aInts))=T at *
   generalize cAt (ptF ps o1 o3) a1=z at *
   refine PE 46 [.tmp 6] [4,5] func99 ?_;simp only[go_sem]
   refine Wk ?_
   refine Sq ?_
   refine AWp.read mixed [0,1,2,3,4,5,6,7,8,9,10,11,12,13,14,15,16,17,18] (by kernel_rfl) ?_;simp only[go_sem,hgp,h1',h2']
   refine Sd ?_
   refine Wk ?_
   refine Sq ?_
   refine AWp.read mixed [0,1,2,3,4,5,6,7,8,9,10,11,12,13,14,15,16,17,18,19,20] (by kernel_rfl) ?_;simp only[go_sem,g1,g2,g3,g5,g6,hTl,g4]
   refine Sd ?_
   refine Wk ?_
   exact Rz
end
def rowsD (n:Nat)(rows:Nat->List Stp)(a:Nat->Nat):List AV:=(List.range n).map fun p=>.sl 3 (((rows p).drop (a p)).map aStp)
theorem rowsD_len (n:Nat)(rows:Nat->List Stp)(a:Nat->Nat):(rowsD n rows a).length=n:=by simp [rowsD]
theorem rowsD_get {n p:Nat}(hp:p<n)(rows:Nat->List Stp)(a:Nat->Nat):(rowsD n rows a).getD p .any = .sl 3 (((rows p).drop (a p)).map aStp):=map_range_getD hp _
theorem rowsD_set {n q:Nat}(rows:Nat->List Stp)(a:Nat->Nat):(rowsD n rows a).set q (.sl 3 ((((rows q).drop (a q)).map aStp).drop 1))=rowsD n rows (updN a q (a q+1)):=by
 unfold rowsD
 rw[map_range_set]
 congr 1;funext p
 by_cases e:p=q
 ·subst e;rw[if_pos rfl,updN_self,<- List.map_drop,List.drop_drop]
 ·rw[if_neg e,updN_ne e]
theorem rowsD_zero (n:Nat)(rows:Nat->List Stp):((List.range n).map rows).map aSts=rowsD n rows fun _=>0:=by unfold rowsD;rw[List.map_map];exact List.map_congr_left fun p _=>by rw[List.drop_zero];rfl
theorem rowsD_hd {rows:Nat->List Stp}{p i:Nat}(h:i<(rows p).length):(((rows p).drop i).map aStp).getD 0 .any=aStp (fSp rows p i):=by
 rw[fSp_eq h,List.getD_eq_getElem?_getD,List.getElem?_map,List.getElem?_drop,Nat.add_zero,List.getElem?_eq_getElem h];rfl
theorem rowsD_sh (rows:Nat->List Stp)(p i:Nat):(((rows p).drop i).map aStp).getD 0 .any = .any\/∃s1 s2 s3:Nat,(((rows p).drop i).map aStp).getD 0 .any = .agg [ai s1,ai s2,ai s3]:=by
 by_cases h:i<(rows p).length
 ·exact .inr ⟨_,_,_,rowsD_hd h⟩
 ·left
  rw[List.drop_of_length_le (by omega)];rfl
noncomputable def aTgt (ps:List Pr)(rows:Nat->List Stp):AV:=match tgtO ps rows with
 | some a=>.tup [.sl 3 ((chcL ps.length rows a).map aStp),ab true]
 | none=>.tup [.sl 3 [],ab false]
theorem aTgt_some {ps:List Pr}{rows:Nat->List Stp}{a:Nat->Nat}(h:LeastS ps rows a):aTgt ps rows = .tup [.sl 3 ((chcL ps.length rows a).map aStp),ab true]:=by
 obtain⟨a',h1,h2⟩:=tgtO_some h
 unfold aTgt
 rw[h1];dsimp only;rw[chcL_congr h2]
theorem aTgt_none {ps:List Pr}{rows:Nat->List Stp}(h:¬ ∃t,TgtS ps rows t):aTgt ps rows = .tup [.sl 3 [],ab false]:=by
 unfold aTgt;rw[tgtO_none h]
theorem order_tight1 (x:List Stp)(hx:x.length<=1000000):PC prog 98 [aSts x] (ab (decide (x.length=0))):=by
 have e:((x.length:Int)=0)↔x.length=0:=by omega
 have e1:aSts x = .sl 3 (x.map aStp):=rfl
 rw[e1]
 refine PE 6 [.tmp 2] [] func98 ?_;simp only[go_sem]
 refine W1 e ?_
 exact Rz
set_option maxHeartbeats 1000000 in
theorem order_tight (ps:List Pr)(hs:Sm ps)(hv:validF ps=true)(w:Bool){b:Nat->Nat->Bool}{rows:Nat->List Stp}(hR:RowsOk ps b rows)(hlen:∀p,p<ps.length->(rows p).length<=1000000) :
  PC prog 56 [aOrd ps (exF ps []) w,aStss ((List.range ps.length).map rows)] (aTgt ps rows):=by
 obtain⟨hl1,hl8⟩:=valid_len hv
 have hmon:=mon_rows hR
 have hT1:=fun a h=>aTgt_some (ps:=ps) (rows:=rows) (a:=a) h
 have hT2:=fun h=>aTgt_none (ps:=ps) (rows:=rows) h
 have hbg:=fun a o h1 h2 h3=>order_begins hv hs w a o h1 h2 h3
 have hin:=fun p hp s hs=>rows_in hR (p:=p) hp s hs
 have hnb:=fun p (hp:p<ps.length)=>show nev ps p<=1000000 by rw[nev_get hp];exact hs.evs _ (List.getElem_mem hp)
 have hel:=fun p (hp:p<ps.length) i (hi:i<(rows p).length)=>(hR p hp).el _ (List.getElem_mem hi)
 obtain⟨O,hO⟩:∃O,O=aOrd ps (exF ps []) w:=⟨_,rfl⟩
 have hOf:fo O=(True,O):=by rw[hO];rfl
 rw[<- hO] at hbg ⊢
 have hrl:((List.range ps.length).map rows).length=ps.length:=by simp
 have hcl:=sts_cloneO ((List.range ps.length).map rows) (by omega)
 rw[rowsD_zero] at hcl
 have hss:aStss ((List.range ps.length).map rows) = .sl 1 (rowsD ps.length rows fun _=>0):=by rw[<- rowsD_zero];rfl
 rw[hss] at hcl ⊢
 generalize aTgt ps rows=R at *
 refine PE 75 [.tmp 4,.tmp 5] [71] func56 ?_;simp only[go_sem]
 refine W1 hOf ?_
 refine hcl.val.mono ?_
 rintro r L hA
 rcases hA.inv with ⟨e1,_,_⟩|⟨bl,cap,rfl,rfl⟩
 ·have:=congrArg List.length e1
  rw[rowsD_len,List.length_nil] at this
  omega
 rw[rowsD_len]
 clear hcl hss
 simp only[go_sem,hOf]
 refine AWp.block (AWp.loopN [] [0,1] (fun m vs L=>vs=[]/\∃a:Nat->Nat,m=totS ps.length (fun p=>(rows p).length - a p)/\L=[(bl,.row 72 1 (rowsD ps.length rows a) cap)]/\(∀t,TgtS ps rows t->∀p,p<ps.length->a p<=t p)/\∀p,p<ps.length->a p<=(rows p).length) (totS ps.length fun p=>(rows p).length - 0) ⟨rfl,fun _=>0,rfl,rfl,fun _ _ _ _=>Nat.zero_le _,fun _ _=>Nat.zero_le _⟩ ?_)
 rintro m vs L - ⟨rfl,a,rfl,rfl,hlow,hle⟩
 have hrow:rowsD ps.length rows a=((List.range ps.length).map fun p=>(rows p).drop (a p)).map aSts:=by unfold rowsD;rw[List.map_map];rfl
 have hct:=sts_containsFunc ((List.range ps.length).map fun p=>(rows p).drop (a p)) (by simp;omega) (.v (.func (.func 98) #[] #[])) rfl (fun x=>decide (x.length=0)) (fun x hx=>by
  obtain⟨p,hp,rfl⟩:=List.mem_map.1 hx
  have:=hlen p (List.mem_range.1 hp)
  exact(order_tight1 _ (by rw[List.length_drop];omega)).val)
 have hss:aStss ((List.range ps.length).map fun p=>(rows p).drop (a p)) = .sl 1 (rowsD ps.length rows a):=by rw[hrow];rfl
 rw[hss] at hct
 have hany:((List.range ps.length).map fun p=>(rows p).drop (a p)).any (fun x=>decide (x.length=0))=true↔∃p,p<ps.length/\(rows p).length<=a p:=by
  rw[List.any_map,List.any_eq_true]
  simp only[List.mem_range,Function.comp,decide_eq_true_eq,List.length_drop]
  exact⟨fun ⟨p,h1,h2⟩=>⟨p,h1,by omega⟩,fun ⟨p,h1,h2⟩=>⟨p,h1,by omega⟩⟩
 generalize hac:((List.range ps.length).map fun p=>(rows p).drop (a p)).any (fun x=>decide (x.length=0))=ac at *
 simp only[go_sem,hOf]
 refine AWp.block ?_
 refine W1 hOf ?_
 have hvw:∀xs,Vws [(bl,.row 72 1 (rowsD ps.length rows a) cap)] (.ls bl 1 0 ps.length cap :: xs) (.sl 1 (rowsD ps.length rows a) :: xs):=fun xs=>Vws.cons (Vw.ofLs (if_pos rfl) (rowsD_len _ _ _).symm) (Vws.refl _)
 refine(PC.view (hvw _) hct (Own.v _) ?_).val
 simp only[go_sem,hOf]
 refine W1 hOf ?_
 constructor<;>intro h1
 ·obtain⟨p,hp,hpa⟩:=hany.1 (by simpa using h1)
  rw[hT2 (tgt_none hlow hp hpa)]
  refine Wk ?_
  refine ret_view [] ?_;simp only[go_sem]
  exact .mkTup (Vws.cons (.nil 3) (Vws.refl _))
 have hlt:∀p,p<ps.length->a p<(rows p).length:=fun p hp=>Nat.lt_of_not_le fun h=>by
  have:=hany.2 ⟨p,hp,h⟩
  rw[this] at h1;cases h1
 have hfo:=fun p (hp:p<ps.length)=>rowsD_hd (hlt p hp)
 clear hct hss hrow hac hany hvw
 refine W1 hOf ?_
 refine AWp.range' ps.length [6] [0,1,17] (fun k vs L=>∃(a':Nat->Nat) (mv:Bool),vs=[ab mv]/\L=[(bl,.row 72 1 (rowsD ps.length rows a') cap)]/\(mv=false->a'=a/\∀p q,p<k->q<ps.length->p ≠ q->bgN ps (fSp rows p (a p)) (fSp rows q (a q))=true) /\
  (mv=true->∃q,q<ps.length/\a'=updN a q (a q+1)/\∀t,TgtS ps rows t->∀r,r<ps.length->(if r=q then a q+1 else a r)<=t r)) (by omega) rfl rfl rfl ⟨a,false,rfl,rfl,fun _=>⟨rfl,fun p q h=>by omega⟩,fun h=>by cases h⟩ ?_ ?_
 ·rintro k vs L hk - ⟨a1,m1,rfl,rfl,hf1,ht1⟩
  simp only[go_sem,hOf]
  refine W1 hOf ?_
  refine AWp.range' ps.length [6] [0,1,7,17,18,22] (fun j vs L=>∃(a':Nat->Nat) (mv:Bool),vs=[ab mv]/\L=[(bl,.row 72 1 (rowsD ps.length rows a') cap)]/\(mv=false->a'=a/\(∀p q,p<k->q<ps.length->p ≠ q->bgN ps (fSp rows p (a p)) (fSp rows q (a q))=true)/\∀q,q<j->k ≠ q->bgN ps (fSp rows k (a k)) (fSp rows q (a q))=true) /\
   (mv=true->∃q,q<ps.length/\a'=updN a q (a q+1)/\∀t,TgtS ps rows t->∀r,r<ps.length->(if r=q then a q+1 else a r)<=t r)) (by omega) rfl rfl rfl ⟨a1,m1,rfl,rfl,fun h=>⟨(hf1 h).1,(hf1 h).2,fun q h=>by omega⟩,ht1⟩ ?_ ?_
  ·rintro j vs L hj - ⟨a2,m2,rfl,rfl,hf2,ht2⟩
   have hkj:((k:Int)=j)↔k=j:=by omega
   cases m2 with
   | true =>
    have g1:=rowsD_get hk rows a2
    have g2:=rowsD_get hj rows a2
    have hl2:=rowsD_len ps.length rows a2
    have q1:=rowsD_sh rows k (a2 k)
    have q2:=rowsD_sh rows j (a2 j)
    generalize ((rows k).drop (a2 k)).map aStp=X at *
    generalize ((rows j).drop (a2 j)).map aStp=Y at *
    rcases q1 with q1|⟨s1,s2,s3,q1⟩ <;> rcases q2 with q2|⟨u1,u2,u3,q2⟩ <;> (
     simp only[go_sem,hOf]
     refine W1 hOf ?_
     refine Sq ?_
     refine AWp.read mixed [0,1,2,3,4,5,6,7,8,9,10,11,12,13,14,15,16,17,18,19,20,21,22,23] (by kernel_rfl) ?_;simp only[go_sem,g1,g2,hl2,q1,q2,hOf,hkj]
     refine GCall.use (ab false) (fun h=>absurd h (by simp)) ?_
     simp only[go_sem,hOf]
     refine Sd ?_
     refine W1 hOf ?_
     exact⟨_,.refl _,a2,true,rfl,rfl,fun h=>(by cases h),ht2⟩)
   | false =>
    obtain⟨rfl,hA1,hA2⟩:=hf2 rfl
    have g1:=rowsD_get hk rows a2
    have g2:=rowsD_get hj rows a2
    have hl2:=rowsD_len ps.length rows a2
    have q1:=hfo k hk
    have q2:=hfo j hj
    have hkl:=hel k hk (a2 k) (hlt k hk)
    have hjl:=hel j hj (a2 j) (hlt j hj)
    rw[<- fSp_eq] at hkl hjl
    obtain⟨c1,c2,c3,_⟩:=hkl
    obtain⟨d1,d2,d3,_⟩:=hjl
    have hb:=hbg (fSp rows k (a2 k)) (fSp rows j (a2 j)) ⟨by rw[c1];exact hk,by rw[c1];omega⟩ ⟨by rw[d1];exact hj,by rw[d1];omega⟩ (by have:=hnb k hk;omega)
    have hst:k ≠ j->bgN ps (fSp rows k (a2 k)) (fSp rows j (a2 j))=false->∀t,TgtS ps rows t->∀r,r<ps.length->(if r=j then a2 j+1 else a2 r)<=t r:=fun hne h=>tgt_step hmon hlow hk hj hne h
    have hset:=rowsD_set (n:=ps.length) (q:=j) rows a2
    have hA3:bgN ps (fSp rows k (a2 k)) (fSp rows j (a2 j))=true\/k=j->∀q,q<j+1->k ≠ q->bgN ps (fSp rows k (a2 k)) (fSp rows q (a2 q))=true:=fun h q hq hkq=>by
     by_cases e:q=j
     ·subst e
      rcases h with h|h
      ·exact h
      ·exact absurd h hkq
     ·exact hA2 q (by omega) hkq
    have hlr:=hlen j hj
    have hdl:(((rows j).drop (a2 j)).map aStp).length=(rows j).length - a2 j:=by rw[List.length_map,List.length_drop]
    have hltj:=hlt j hj
    have hlrk:=hlen k hk
    have hdlk:(((rows k).drop (a2 k)).map aStp).length=(rows k).length - a2 k:=by rw[List.length_map,List.length_drop]
    have hltk:=hlt k hk
    generalize bgN ps (fSp rows k (a2 k)) (fSp rows j (a2 j))=B at *
    have es:aStp (fSp rows k (a2 k)) = .agg [ai (fSp rows k (a2 k)).1,ai (fSp rows k (a2 k)).2.1,ai (fSp rows k (a2 k)).2.2]:=rfl
    have eu:aStp (fSp rows j (a2 j)) = .agg [ai (fSp rows j (a2 j)).1,ai (fSp rows j (a2 j)).2.1,ai (fSp rows j (a2 j)).2.2]:=rfl
    rw[es] at hb q1
    rw[eu] at hb q2
    generalize ((rows k).drop (a2 k)).map aStp=X at *
    generalize ((rows j).drop (a2 j)).map aStp=Y at *
    by_cases hne:k=j
    ·subst hne
     simp only[go_sem,hOf]
     refine W1 hOf ?_
     refine Sq ?_
     refine AWp.read mixed [0,1,2,3,4,5,6,7,8,9,10,11,12,13,14,15,16,17,18,19,20,21,22,23] (by kernel_rfl) ?_;simp only[go_sem,g1,g2,hl2,q1,q2,hOf]
     refine GCall.use (ab false) (fun h=>absurd h (by simp)) ?_
     simp only[go_sem,hOf]
     refine Sd ?_
     refine W1 hOf ?_
     exact⟨_,.refl _,a2,false,rfl,rfl,fun _=>⟨rfl,hA1,hA3 (.inr rfl)⟩,fun h=>by cases h⟩
    ·simp only[go_sem,hOf]
     refine W1 hOf ?_
     refine Sq ?_
     refine AWp.read mixed [0,1,2,3,4,5,6,7,8,9,10,11,12,13,14,15,16,17,18,19,20,21,22,23] (by kernel_rfl) ?_;simp only[go_sem,g1,g2,hl2,q1,q2,hOf,hkj,hne]
     refine Sd ?_
     refine Sd ?_
     refine GCall.use (ab B) (fun _=>⟨At,(hb).val.use ⟨rfl,rfl⟩⟩) ?_;simp only[go_sem,hOf]
     refine Sd ?_
     refine W4 hOf g1 g2 hl2 ?_
     constructor<;>intro h3
     ·refine W4 g1 g2 hl2 hOf ?_
      refine Sd ?_
      rw[hset]
      refine⟨_,.refl _,_,true,rfl,rfl,fun h=>(by cases h),fun _=>⟨j,hj,rfl,hst hne (by simpa using h3)⟩⟩
     ·refine W1 hOf ?_
      exact⟨_,.refl _,a2,false,rfl,rfl,fun _=>⟨rfl,hA1,hA3 (.inl (by simpa using h3))⟩,fun h=>by cases h⟩
  ·rintro vs L - ⟨a2,m2,rfl,rfl,hf2,ht2⟩
   simp only[go_sem,hOf]
   refine W1 hOf ?_
   refine⟨_,.refl _,a2,m2,rfl,rfl,fun h=>?_,ht2⟩
   obtain⟨e1,e2,e3⟩:=hf2 h
   refine⟨e1,fun p q hp hq hpq=>?_⟩
   by_cases e:p=k
   ·subst e;exact e3 q hq hpq
   ·exact e2 p q (by omega) hq hpq
 ·rintro vs L - ⟨a1,m1,rfl,rfl,hf1,ht1⟩
  simp only[go_sem,hOf]
  refine W1 hOf ?_
  constructor<;>intro h2
  ·obtain⟨q,hq,rfl,hlow2⟩:=ht1 (by simpa using h2)
   have hlq:=hlt q hq
   refine⟨_,.refl _,_,?_,updN a q (a q+1),rfl,rfl,fun t ht p hp=>?_,fun p hp=>?_⟩
   ·refine totS_lt2 ps.length (p:=q) (fun r _=>?_) hq ?_
    ·by_cases e:r=q
     ·subst e;rw[updN_self];omega
     ·rw[updN_ne e];exact Nat.le_refl _
    ·rw[updN_self];omega
   ·have:=hlow2 t ht p hp
    unfold updN
    split
    ·rename_i e;rw[if_pos e] at this;omega
    ·rename_i e;rw[if_neg e] at this;omega
   ·by_cases e:p=q
    ·subst e;rw[updN_self];omega
    ·rw[updN_ne e];exact hle p hp
  ·obtain⟨rfl,hall⟩:=hf1 (by simpa using h2)
   have htgt:TgtS ps rows a1:=⟨fun p hp=>hlt p hp,fun p q hp hq hpq=>hall p q hp hq hpq⟩
   rw[hT1 a1 ⟨htgt,hlow⟩]
   refine W1 hOf ?_
   have hl2:=rowsD_len ps.length rows a1
   refine AWp.range' ps.length [9] [61,62] (fun k vs L=>∃v Lq,vs=[v]/\L=Lq ++ [(bl,.row 72 1 (rowsD ps.length rows a1) cap)]/\AppSt 77 3 ((chcL k rows a1).map aStp) v Lq/\∀x ∈ Lq,x.1 ≠ bl) (by omega) rfl rfl rfl ⟨anil,[],rfl,rfl,.nil,by simp⟩ ?_ ?_
   ·rintro k vs L hk - ⟨v,Lq,rfl,rfl,hAp,hq⟩
    have g1:=rowsD_get hk rows a1
    have q1:=hfo k hk
    have hltk:=hlt k hk
    have hdlk:(((rows k).drop (a1 k)).map aStp).length=(rows k).length - a1 k:=by rw[List.length_map,List.length_drop]
    have hsu:=congrArg (List.map aStp) (chcL_succ k rows a1)
    rw[List.map_append] at hsu
    have hyl:((chcL k rows a1).map aStp).length=k:=by rw[List.length_map,chcL_len]
    have hfo:=hAp.fo
    have es:[fSp rows k (a1 k)].map aStp=[aStp (fSp rows k (a1 k))]:=rfl
    have es2:aStp (fSp rows k (a1 k)) = .agg [ai (fSp rows k (a1 k)).1,ai (fSp rows k (a1 k)).2.1,ai (fSp rows k (a1 k)).2.2]:=rfl
    rw[es] at hsu
    rw[es2] at hsu q1
    generalize hys:(chcL k rows a1).map aStp=ys at *
    generalize fSp rows k (a1 k)=s at *
    generalize ((rows k).drop (a1 k)).map aStp=X at *
    rcases hAp.inv with ⟨e1,rfl,rfl⟩|⟨bq,cap2,rfl,rfl⟩
    ·rw[e1] at hsu
     simp only[go_sem,List.nil_append]
     refine W4 g1 q1 hl2 hOf ?_
     intro b' cap' g8 g9
     have n3:¬b'=bl:=by omega
     have n4:¬bl=b':=by omega
     refine W2 n3 n4 ?_
     refine⟨_,.refl _,.ls b' 3 0 1 cap',[(b',.row 77 3 ((chcL (k+1) rows a1).map aStp) cap')],rfl,?_,?_,?_⟩
     ·rw[hsu];rfl
     ·rw[hsu];exact .row _ _ _
     ·intro y hy;simp only[List.mem_singleton] at hy;subst hy;exact n3
    ·have nq:=hq (bq,.row 77 3 ys cap2) (by simp)
     simp only at nq
     have nq1:¬bl=bq:=fun e=>nq e.symm
     simp only[go_sem,List.cons_append,List.nil_append]
     refine W6 g1 q1 hl2 nq nq1 hOf ?_
     intro b' cap' g8 g9
     have n3:¬b'=bl:=by omega
     have n4:¬bl=b':=by omega
     refine W2 n3 n4 ?_
     refine⟨_,.refl _,.ls b' 3 0 (ys.length+1) cap',[(b',.row 77 3 ((chcL (k+1) rows a1).map aStp) cap')],rfl,?_,?_,?_⟩
     ·rw[hsu];rfl
     ·rw[hsu];exact AppSt.snoc b' cap' _ rfl
     ·intro y hy;simp only[List.mem_singleton] at hy;subst hy;exact n3
   ·rintro vs L - ⟨v,Lq,rfl,rfl,hAp,hq⟩
    have hyl:((chcL ps.length rows a1).map aStp).length=ps.length:=by rw[List.length_map,chcL_len]
    rcases hAp.inv with ⟨e1,_,_⟩|⟨bq,cap2,rfl,rfl⟩
    ·rw[e1] at hyl;simp at hyl;omega
    simp only[go_sem,List.cons_append,List.nil_append]
    refine W1 hOf ?_
    refine ret_view [true,false] ?_;simp only[go_sem]
    exact .mkTup (Vws.cons (Vw.ofLs (if_pos rfl) (List.length_map _).symm) (Vws.refl _))
end Go.AL
end
