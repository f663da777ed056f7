/- Texts of this claim's proof: WCu, WBig, WMl. No condition. -/
import Derived.Test.YtbegiibjiidkmaaGreatDoorM14
import Derived.Test.YtbegiibjiidkmaaGreatDoorM10
import Derived.Test.YtbegiibjiidkmaaGreatDoorM7
import Derived.Test.YtbegiibjiidkmaaGreatDoorM15
section
namespace Go.AL
open Go Go.RowKit Proofs.Tryz
set_option maxRecDepth 4000
def Cb (c:List Int):Prop:=c.length<=1000000/\∀z ∈ c,0<=z/\z<=1000000
theorem isF_cb {ps:List Pr}(hs:Sm ps){c:List Int}(h:isF ps c=true):Cb c:=by
 obtain⟨h1,h2,_⟩:=isF_iff.1 h
 have:=hs.procs
 refine⟨by omega,fun z hz=>⟨isF_nonneg h z hz,?_⟩⟩
 obtain⟨p,hp,rfl⟩:=List.getElem_of_mem hz
 have h3:=((inRange_iff h1).1 h2 p (by omega)).2
 have:=hs.evs _ (List.getElem_mem (show p<ps.length by omega))
 rw[cAt_nat hp] at h3
 omega
theorem cb_take {c:List Int}(h:Cb c)(k:Nat):0<=(c.take k).sum/\(c.take k).sum<=1000000 * k:=by
 have h2:=h.2
 clear h
 induction c generalizing k with
 | nil=>rw[List.take_nil,List.sum_nil];omega
 | cons a c ih =>
  cases k with
  | zero=>simp
  | succ k =>
   have h0:=h2 a List.mem_cons_self
   have:=ih k fun z hz=>h2 z (List.mem_cons_of_mem _ hz)
   rw[List.take_succ_cons,List.sum_cons];omega
theorem take_sum {c:List Int}{k:Nat}(hk:k<c.length):(c.take (k+1)).sum=(c.take k).sum+c[k]:=by
 rw[List.take_add_one,List.getElem?_eq_getElem hk,List.sum_append];simp
theorem ref23_Size (c:List Int)(hc:Cb c):PC prog 146 [aInts c] (ai c.sum):=by
 have hl:=hc.1
 refine PE 18 [.tmp 2] [] func146 ?_;simp only[go_sem]
 refine Wk ?_
 refine AWp.block (AWp.count 4 c.length [3] [0] (fun k vs L=>L=[]/\vs=[ai (c.take k).sum]) rfl rfl ⟨rfl,rfl⟩ ?_)
 rintro k vs L hk - ⟨rfl,rfl⟩
 have htk:=cb_take hc k
 simp only[go_sem]
 refine Wk ?_
 constructor<;>intro h1
 ·have hkc:k<c.length:=by omega
  have hg:=getD_map (f:=ai) hkc
  have hz:=hc.2 _ (List.getElem_mem hkc)
  have ht:=take_sum hkc
  refine W1 hg ?_
  refine Sd ?_
  exact⟨_,.refl _,rfl,by rw[ht]⟩
 ·have:k=c.length:=by omega
  subst this
  rw[List.take_length]
  refine Wk ?_
  exact Rz
theorem lexF_hit:∀ {a b:List Int} {k:Nat} (ha:k<a.length) (hb:k<b.length),a[k]=b[k]->lexF (a.drop k) (b.drop k)=lexF (a.drop (k+1)) (b.drop (k+1)):=fun {a b k} ha hb h=>by
 rw[List.drop_eq_getElem_cons ha,List.drop_eq_getElem_cons hb,lexF,if_pos h]
theorem lexF_no {a b:List Int}{k:Nat}(ha:k<a.length)(hb:k<b.length)(h:¬a[k]=b[k]):lexF (a.drop k) (b.drop k)=decide (a[k]<b[k]):=by
 rw[List.drop_eq_getElem_cons ha,List.drop_eq_getElem_cons hb,lexF,if_neg h]
theorem ref23_Before (a b:List Int)(ha:Cb a)(hb:Cb b)(hl:a.length=b.length):PC prog 107 [aInts a,aInts b] (ab (befF a b)):=by
 have h1:=ref23_Size a ha
 have h2:=ref23_Size b hb
 have hal:=ha.1
 unfold befF
 by_cases hs:a.sum=b.sum
 ·rw[if_pos hs]
  refine PE 40 [.tmp 4] [] func107 ?_;simp only[go_sem]
  refine Wk ?_
  refine Sd ?_
  refine Vu h1 ?_
  refine Sd ?_
  refine Vu h2 ?_
  refine W1 hs ?_
  refine AWp.block (AWp.count 5 a.length [] [0,1] (fun k vs L=>L=[]/\lexF a b=lexF (a.drop k) (b.drop k)) rfl rfl ⟨rfl,rfl⟩ ?_)
  rintro k vs L hk - ⟨rfl,hI⟩
  simp only[go_sem]
  refine Wk ?_
  constructor<;>intro h3
  ·have hka:k<a.length:=by omega
   have hkb:k<b.length:=by omega
   have ga:=getD_map (f:=ai) hka
   have gb:=getD_map (f:=ai) hkb
   refine AWp.seq (AWp.block (AWp.seq ?_))
   refine AWp.drawn mixed 9 (by kernel_rfl) ?_;simp only[go_sem,ga,gb]
   refine Sd ?_
   refine Wk ?_
   constructor<;>intro h4
   ·refine AWp.drawn mixed 9 (by kernel_rfl) ?_;simp only[go_sem,ga,gb]
    refine Wk ?_
    refine Rq ?_
    rw[hI,lexF_no hka hkb h4]
   ·refine Wk ?_
    exact⟨_,.refl _,rfl,by rw[hI,lexF_hit hka hkb (by omega)]⟩
  ·have:k=a.length:=by omega
   subst this
   refine Wk ?_
   refine Rq ?_
   rw[hI,List.drop_length];rfl
 ·rw[if_neg hs]
  refine PE 40 [.tmp 4] [] func107 ?_;simp only[go_sem]
  refine Wk ?_
  refine Sd ?_
  refine Vu h1 ?_
  refine Sd ?_
  refine Vu h2 ?_
  refine W1 hs ?_
  refine Sd ?_
  refine Vu h1 ?_
  refine Sd ?_
  refine Vu h2 ?_
  refine Wk ?_
  exact Rz
theorem ref23_Is (ps:List Pr)(hs:Sm ps)(hn:1<=ps.length)(c:List Int):PC prog 105 [aTr ps,aInts c] (ab (isF ps c)):=by
 have h1:=ref12_Cut ps hs c
 have h2:=fun h1 h2=>ref12_Consistent ps hs hn c h1 h2
 unfold isF
 generalize closedF ps c=B at *
 refine PE 13 [.tmp 4] [2] func105 ?_;simp only[go_sem]
 refine Wk ?_
 refine Sd ?_
 refine Vu h1 ?_
 refine GCall.use (ab B) ?_ ?_
 ·intro g;exact⟨At,(h2 (by simpa using g.1) (by simpa using g.2)).val.use ⟨rfl,rfl⟩⟩
 simp only[go_sem]
 refine Wk ?_
 exact Rz
theorem ref23_Step (c:List Int)(hc:Cb c)(p:Nat)(hp:p<c.length):PC prog 106 [aInts c,ai p] (aInts (stpC c p)):=by
 have hl:=hc.1
 have hz:=hc.2 _ (List.getElem_mem hp)
 have hg:=getD_map (f:=ai) hp
 have hst:(c.map ai).set p (ai (c[p]+1))=(stpC c p).map ai:=by unfold stpC;rw[cAt_nat hp,List.map_set]
 have hsl:(stpC c p).length=c.length:=by unfold stpC;rw[List.length_set]
 refine PE 18 [.tmp 4] [] func106 ?_;simp only[go_sem]
 refine Wk ?_
 intro b0
 refine⟨⟨by omega,by omega⟩,fun b cap hcap=>?_⟩
 refine W1 hg ?_
 refine Sd ?_
 rw[hst]
 refine ret_view [true] ?_;simp only[go_sem]
 exact Vw.ofLs (if_pos rfl) (by rw[List.length_map,hsl])
theorem ref23_Next (ps:List Pr)(hs:Sm ps)(hn:1<=ps.length)(c:List Int)(hc:isF ps c=true):PC prog 62 [aTr ps,aInts c] (aRows (nextL ps c)):=by
 have hcb:=isF_cb hs hc
 obtain⟨hl,hr,_⟩:=isF_iff.1 hc
 have hps:=hs.procs
 have hI:=fun d=>ref23_Is ps hs hn d
 have hS:=fun p hp=>ref23_Step c hcb p hp
 have hlen:=fun k=>nextT_len ps c k
 have hR:aRows (nextL ps c) = .sl 1 ((nextT ps c c.length).map aInts):=rfl
 rw[hR]
 refine PE 39 [.tmp 4] [2,36] func62 ?_;simp only[go_sem]
 refine Wk ?_
 refine AWp.block (AWp.count 6 c.length [5] [1,2] (fun k vs L=>∃v,vs=[v]/\AppSt 95 1 ((nextT ps c k).map aInts) v L) rfl rfl ⟨anil,rfl,.nil⟩ ?_)
 rintro k vs L hk - ⟨v,rfl,hA⟩
 have hfo:=hA.fo
 have hyl:((nextT ps c k).map aInts).length<=k:=by rw[List.length_map];exact hlen k
 simp only[go_sem]
 by_cases hkn:k<c.length
 ·have hki:(k:Int)<c.length:=by omega
  have hkp:k<ps.length:=by omega
  have gc:=getD_map (f:=ai) hkn
  have gp:=getD_map (f:=aPr) hkp
  have hel:=hs.evs _ (List.getElem_mem hkp)
  have hSk:=hS k hkn
  have hIk:=hI (stpC c k)
  have hsu:=nextT_succ ps c k
  have hnx:nx1 ps c k=if c[k]<ps[k].evs.length/\isF ps (stpC c k)=true then [stpC c k] else []:=by unfold nx1;rw[cAt_nat hkn,nev_get hkp]
  rw[hnx] at hsu
  have hbd:=hcb.2 _ (List.getElem_mem hkn)
  generalize isF ps (stpC c k)=B at *
  generalize stpC c k=s at *
  refine W1 hki ?_
  refine AWp.seq (AWp.block (AWp.seq ?_))
  refine Sq ?_
  refine AWp.mix mixed [0,1,2,3,4,5,6,7,8,9,10,11,12,13,14,15,16,17,18] .done (by kernel_rfl) ?_;simp only[go_sem,gc,gp]
  refine Sd ?_
  refine GCall.use (aInts s) ?_ ?_
  ·intro _;exact⟨At,hSk.val.use ⟨rfl,rfl⟩⟩
  simp only[go_sem]
  refine Sd ?_
  refine GCall.use (ab B) ?_ ?_
  ·intro _;exact⟨At,hIk.val.use ⟨rfl,rfl⟩⟩
  simp only[go_sem]
  refine Sd ?_
  refine Wk ?_
  refine⟨fun h1 h2=>?_,fun h1=>?_⟩
  ·rw[if_pos ⟨h1,h2⟩] at hsu
   generalize hys:(nextT ps c k).map aInts=ys at *
   rcases hA.inv with ⟨e1,rfl,rfl⟩|⟨b,cap,rfl,rfl⟩
   ·refine Wk ?_
    refine Sd ?_
    refine Vu hSk ?_
    intro b' cap' _
    refine Wk ?_
    refine⟨_,.refl _,_,rfl,?_⟩
    rw[hsu,List.map_append,hys,e1]
    exact .row _ _ _
   ·refine Wk ?_
    refine Sd ?_
    refine Vu hSk ?_
    refine⟨⟨by omega,by omega⟩,fun b' cap' _=>?_⟩
    refine Wk ?_
    refine⟨_,.refl _,_,rfl,?_⟩
    rw[hsu,List.map_append,hys]
    have:=AppSt.row (t:=95) (k:=1) b' (ys ++ [aInts s]) cap'
    simpa [aInts] using this
  ·rw[if_neg (fun h=>by have:=h1 h.1;rw[h.2] at this;cases this),List.append_nil] at hsu
   refine Wk ?_
   refine⟨_,.refl _,_,rfl,?_⟩
   rw[hsu];exact hA
 ·have hki:¬(k:Int)<c.length:=by omega
  have hke:k=c.length:=by omega
  subst hke
  rcases hA.inv with ⟨e1,rfl,rfl⟩|⟨b,cap,rfl,rfl⟩
  ·refine W1 hki ?_
   refine ret_view [] ?_;simp only[go_sem]
   rw[e1]
   exact .nil 1
  ·refine W1 hki ?_
   refine ret_view [true] ?_;simp only[go_sem]
   exact Vw.ofLs (if_pos rfl) (by rw[List.length_map])
theorem ref15_SameList (a b:List Int)(ha:a.length<=1000000):PC prog 108 [aInts a,aInts b] (ab (decide (a=b))):=by
 by_cases hl:a.length=b.length
 ·have hli:(a.length:Int)=b.length:=by omega
  refine PE 26 [.tmp 4] [] func108 ?_;simp only[go_sem]
  refine W1 hli ?_
  refine AWp.block (AWp.count 5 a.length [] [0,1] (fun k vs L=>L=[]/\∀j (h1:j<a.length) (h2:j<b.length),j<k->a[j]=b[j]) rfl rfl ⟨rfl,fun j _ _ h=>by omega⟩ ?_)
  rintro k vs L hk - ⟨rfl,hI⟩
  simp only[go_sem]
  refine W1 hli ?_
  constructor<;>intro h3
  ·have hka:k<a.length:=by omega
   have hkb:k<b.length:=by omega
   have ga:=getD_map (f:=ai) hka
   have gb:=getD_map (f:=ai) hkb
   refine AWp.seq (AWp.block (AWp.seq ?_))
   refine AWp.drawn mixed 9 (by kernel_rfl) ?_;simp only[go_sem,ga,gb]
   refine Sd ?_
   refine Wk ?_
   constructor<;>intro h4
   ·refine Wk ?_
    refine Rq ?_
    rw[decide_eq_false]
    rintro rfl
    exact h4 rfl
   ·refine Wk ?_
    refine⟨_,.refl _,rfl,fun j j1 j2 hj=>?_⟩
    by_cases e:j=k
    ·subst e;omega
    ·exact hI j j1 j2 (by omega)
  ·refine Wk ?_
   refine Rq ?_
   rw[decide_eq_true]
   exact List.ext_getElem hl fun j j1 j2=>hI j j1 j2 (by omega)
 ·have hli:¬(a.length:Int)=b.length:=by omega
  rw[decide_eq_false fun h=>hl (by rw[h])]
  refine PE 26 [.tmp 4] [] func108 ?_;simp only[go_sem]
  refine W1 hli ?_
  exact Rz
theorem insF_at {l:List (List Int)}{c:List Int}{k:Nat}(hk:k<=l.length)(h1:∀j (hj:j<l.length),j<k->befF l[j] c=true)(h2:∀hk:k<l.length,befF l[k] c=false):(l.takeWhile fun x=>befF x c)=l.take k/\(l.dropWhile fun x=>befF x c)=l.drop k:=by
 induction l generalizing k with
 | nil=>simp
 | cons a l ih =>
  cases k with
  | zero =>
   have:=h2 (by simp)
   simp only[List.getElem_cons_zero] at this
   rw[List.takeWhile_cons,List.dropWhile_cons,this];simp
  | succ k =>
   have h0:=h1 0 (by simp) (by omega)
   simp only[List.getElem_cons_zero] at h0
   obtain⟨i1,i2⟩:=ih (k:=k) (by simpa using hk) (fun j hj hjk=>by have:=h1 (j+1) (by simpa using hj) (by omega);simpa using this) (fun hk=>by have:=h2 (by simpa using hk);simpa using this)
   rw[List.takeWhile_cons,List.dropWhile_cons,h0]
   simp [i1,i2]
theorem ref23_insert (l:List (List Int))(c:List Int)(hl:l.length<=1000000)(hc:Cb c)(hr:∀x ∈ l,Cb x/\x.length=c.length):PC prog 63 [aRows l,aInts c] (aRows (insF l c)):=by
 have hB:=fun j (hj:j<l.length)=>ref23_Before l[j] c (hr _ (List.getElem_mem hj)).1 hc (hr _ (List.getElem_mem hj)).2
 have hE:=fun j (hj:j<l.length)=>ref15_SameList l[j] c (hr _ (List.getElem_mem hj)).1.1
 have hR:∀x:List (List Int),aRows x = .sl 1 (x.map aInts):=fun _=>rfl
 rw[hR,hR]
 refine PE 48 [.tmp 4] [41] func63 ?_;simp only[go_sem]
 refine Wk ?_
 refine AWp.cut [0,1,5] (fun vs L=>L=[]/\∃k:Nat,k<=l.length/\vs=[.sl 1 (l.map aInts),aInts c,ai k]/\(∀j (hj:j<l.length),j<k->befF l[j] c=true)/\∀hk:k<l.length,befF l[k] c=false) ?_ ?_
 ·refine AWp.block (AWp.loopN [5] [0,1] (fun m vs L=>L=[]/\∃k:Nat,k<=l.length/\m=l.length - k/\vs=[ai k]/\∀j (hj:j<l.length),j<k->befF l[j] c=true) l.length ?_ ?_)
  ·exact⟨rfl,0,by omega,rfl,rfl,fun j _ h=>by omega⟩
  rintro m vs L - ⟨rfl,k,hk,rfl,rfl,hI⟩
  by_cases hkl:k<l.length
  ·have hki:(k:Int)<l.length:=by omega
   have g:=getD_map (f:=aInts) hkl
   have hBk:=hB k hkl
   simp only[go_sem]
   refine W2 g hki ?_
   refine GCall.use (ab (befF l[k] c)) ?_ ?_
   ·intro _;exact⟨At,hBk.val.use ⟨rfl,rfl⟩⟩
   simp only[go_sem]
   refine Sd ?_
   cases hb:befF l[k] c with
   | true =>
    refine Wk ?_
    refine⟨_,.refl _,_,by omega,rfl,k+1,by omega,rfl,by rw[show ((k+1:Nat):Int)=(k:Int)+1 by omega],fun j hj hjk=>?_⟩
    by_cases e:j=k
    ·subst e;exact hb
    ·exact hI j hj (by omega)
   | false =>
    refine Wk ?_
    exact⟨_,.refl _,rfl,k,hk,rfl,hI,fun _=>hb⟩
  ·have hki:¬(k:Int)<l.length:=by omega
   have hke:k=l.length:=by omega
   subst hke
   simp only[go_sem]
   refine W1 hki ?_
   refine GCall.use (ab false) (fun g=>by simp at g) ?_
   simp only[go_sem]
   refine Wk ?_
   exact⟨_,.refl _,rfl,l.length,Nat.le_refl _,rfl,hI,fun h=>by omega⟩
 ·rintro vs L - ⟨rfl,k,hk,rfl,h1,h2⟩
  obtain⟨i1,i2⟩:=insF_at hk h1 h2
  have hck:=hc.1
  unfold insF
  rw[i1,i2]
  by_cases hkl:k<l.length
  ·have hki:(k:Int)<l.length:=by omega
   have g:=getD_map (f:=aInts) hkl
   have hEk:=hE k hkl
   have hd:(l.drop k).head?=some l[k]:=by rw[List.head?_drop,List.getElem?_eq_getElem hkl]
   rw[hd]
   simp only[go_sem]
   refine W2 g hki ?_
   refine GCall.use (ab (decide (l[k]=c))) ?_ ?_
   ·intro _;exact⟨At,hEk.val.use ⟨rfl,rfl⟩⟩
   simp only[go_sem]
   refine Sd ?_
   refine Wk ?_
   constructor<;>intro h3
   ·refine Wk ?_
    refine Rq ?_
    rw[if_pos (by rw[h3])]
   ·rw[if_neg (fun e=>h3 (by simpa using e))]
    refine Wk ?_
    intro b0
    refine⟨⟨by omega,by omega,by omega⟩,⟨by rw[List.length_take];omega,by rw[List.length_take];omega⟩,fun b1 cap1 _=>?_⟩
    refine Wk ?_
    refine⟨⟨by rw[List.length_take];omega,by rw[List.length_take];omega⟩,fun b2 cap2 _=>?_⟩
    refine Wk ?_
    have htd:(l.take k).length+1+(l.drop k).length=l.length+1:=by rw[List.length_take,List.length_drop];omega
    refine⟨by simp,⟨by omega,by omega⟩,fun b3 cap3 _=>?_⟩
    refine Wk ?_
    refine ret_view [true] ?_;simp only[go_sem]
    have e:List.take ((List.take k l).length+1) (List.map aInts (List.take k l) ++ [AV.sl 1 (List.map ai c)]) ++ List.map aInts (List.drop k l)=List.map aInts (List.take k l ++ c :: List.drop k l):=by
     rw[List.take_of_length_le (by simp)];simp [aInts]
    rw[e]
    exact Vw.ofLs (if_pos rfl) (by rw[List.length_map,List.length_append,List.length_cons];omega)
  ·have hki:¬(k:Int)<l.length:=by omega
   have hke:k=l.length:=by omega
   subst hke
   rw[if_neg (by simp)]
   simp only[go_sem]
   refine W1 hki ?_
   refine GCall.use (ab false) (fun g=>by simp at g) ?_
   simp only[go_sem]
   repeat(first|((with_reducible refine AWp.ofC ?_ ?_);exact rfl;simp only[go_sem,List.take_length,List.drop_length])|((with_reducible refine an ?_ ?_);exact Au))
   intro b0
   refine⟨⟨by omega,by omega,by omega⟩,⟨by omega,by omega⟩,fun b1 cap1 _=>?_⟩
   refine Wk ?_
   intro b2 cap2 _
   refine Wk ?_
   have hdl:(List.drop l.length l).length=0:=by rw[List.length_drop];omega
   refine⟨by simp,⟨by omega,by omega⟩,fun b3 cap3 _=>?_⟩
   refine Wk ?_
   refine ret_view [true] ?_;simp only[go_sem]
   have e:List.take (l.length+1) (List.map aInts l ++ [AV.sl 1 (List.map ai c)]) ++ List.map aInts (List.drop l.length l)=List.map aInts (l ++ [c]):=by
    rw[List.take_of_length_le (by simp),List.drop_length];simp [aInts]
   rw[e]
   exact Vw.ofLs (if_pos rfl) (by rw[List.length_map,List.length_append,List.length_singleton];omega)
theorem Vw.ofLs' {L:AHeap}{b k len c:Nat}{t:TypeId}{xs xs':List AV}{cap:Nat}(h:lk L b=some (.row t k xs cap))(hl:len=xs.length)(hv:Vws L xs xs'):Vw L (.ls b k 0 len c) (.sl k xs'):=by
 subst hl
 exact .ls h (by omega) (by rw[List.drop_zero,List.take_length];exact hv.1) (by rw[List.drop_zero,List.take_length];exact hv.2)
theorem moreT_succ {ps:List Pr}{l:List (List Int)}{i:Nat}(hi:i<l.length):moreT ps (l.take (i+1))=insL (moreT ps (l.take i)) (nextL ps l[i]):=by
 unfold moreT
 rw[List.take_add_one,List.getElem?_eq_getElem hi,List.foldl_append];rfl
theorem moreT_len {ps:List Pr}{B:Nat} : ∀ {l acc:List (List Int)},(∀c ∈ l,c.length<=B)->(l.foldl (fun acc c=>insL acc (nextL ps c)) acc).length<=acc.length+l.length * B
 | [],acc,_=>by simp
 | c :: l,acc,h=>by
  have h1:=moreT_len (ps:=ps) (B:=B) (l:=l) (acc:=insL acc (nextL ps c)) fun c hc=>h c (List.mem_cons_of_mem _ hc)
  have h2:=insL_len (nextL ps c) acc
  have h3:=nextT_len ps c c.length
  have h4:=h c List.mem_cons_self
  have h5:(nextL ps c).length=(nextT ps c c.length).length:=rfl
  rw[List.foldl_cons,List.length_cons,Nat.add_mul]
  omega
theorem insL_succ {acc l:List (List Int)}{j:Nat}(hj:j<l.length):insL acc (l.take (j+1))=insF (insL acc (l.take j)) l[j]:=by
 unfold insL
 rw[List.take_add_one,List.getElem?_eq_getElem hj,List.foldl_append];rfl
set_option maxHeartbeats 1000000 in
theorem ref23_List (ps:List Pr)(hs:Sm ps)(hv:validF ps=true):PC prog 30 [aTr ps] (if 5000<(cutsF ps).length then .tup [.sl 1 [],ab false] else .tup [aRows (cutsF ps),ab true]):=by
 obtain⟨hl1,hl8⟩:=valid_len hv
 have hps:=hs.procs
 have hisF:∀c,isF ps c=true->Cb c/\c.length=ps.length:=fun c h=>⟨isF_cb hs h,(isF_iff.1 h).1⟩
 have hlev:∀k c,c ∈ levF ps k->isF ps c=true:=fun k c h=>((mem_levF hv k c).1 h).1
 have hnxt:∀c d,d ∈ nextL ps c->isF ps d=true:=fun c d h=>by obtain⟨_,_,_,h1,rfl⟩:=mem_nextL.1 h;exact h1
 have hR:∀x:List (List Int),aRows x = .sl 1 (x.map aInts):=fun _=>rfl
 have hNx:=fun c hc=>ref23_Next ps hs hl1 c hc
 have hE:(if 5000<(cutsF ps).length then AV.tup [.sl 1 [],ab false] else .tup [aRows (cutsF ps),ab true])=if 5000<(cutsF ps).length then AV.tup [.sl 1 [],ab false] else .tup [.sl 1 ((cutsF ps).map aInts),ab true]:=rfl
 rw[hE]
 refine PE 50 [.tmp 2,.tmp 3] [1] func30 ?_;simp only[go_sem]
 refine Wk ?_
 intro b0 b1 g1
 have n1:¬b1=b0:=by omega
 have n2:¬b0=b1:=by omega
 refine AWp.view [true,true] [(4,.sl 1 ((levF ps 0).map aInts))] (LVw.refl _) ?_ ?_
 ·intro q hq
  simp only[List.mem_singleton] at hq
  subst hq
  simp only[go_sem,pickT]
  have e:List.replicate ps.length (ai 0)=(List.replicate ps.length (0:Int)).map ai:=(List.map_replicate).symm
  rw[e]
  exact Vw.ofLs' (t:=95) (cap:=1) (if_pos rfl) rfl (Vws.cons (Vw.ofLs (t:=3) (cap:=ps.length) (by simp only[lk,n2,if_false,if_true]) (by rw[List.length_map,List.length_replicate])) .nil)
 simp only[go_sem,pickF]
 refine Wk ?_
 refine AWp.seq (AWp.block (AWp.loopN [4,5] [1] (fun m vs L=>∃(k:Nat) (v:AV),vs=[.sl 1 ((levF ps k).map aInts),v]/\AppSt 95 1 ((cumF ps k).map aInts) v L/\(cumF ps k).length<=5000/\(levF ps k).length<=40000/\k<=off ps ps.length+1/\m=off ps ps.length+1 - k) (off ps ps.length+1) ?_ ?_))
 ·exact⟨0,anil,rfl,.nil,by simp [cumF],by simp [levF],by omega,rfl⟩
 rintro m vs L - ⟨k,v,rfl,hA,h5,hl4,hk,rfl⟩
 have hlevk:=hlev k
 by_cases hlv:levF ps k=[]
 ·have hz:¬(0:Int)<((levF ps k).length:Int):=by rw[hlv];simp
  have hcut:cutsF ps=cumF ps k:=by
   unfold cutsF
   rw[show off ps ps.length+1=k+(off ps ps.length+1 - k) by omega,cumF_end hlv]
  rw[hcut,if_neg (by omega)]
  generalize (cumF ps k).map aInts=ys at *
  rcases hA.inv with ⟨e1,rfl,rfl⟩|⟨bq,cap,rfl,rfl⟩
  ·simp only[go_sem]
   refine W1 hz ?_
   refine ret_view [] ?_;simp only[go_sem]
   rw[e1]
   exact .mkTup (Vws.cons (.nil 1) (Vws.refl _))
  ·simp only[go_sem]
   refine W1 hz ?_
   refine ret_view [true] ?_;simp only[go_sem]
   exact .mkTup (Vws.cons (Vw.ofLs (if_pos rfl) rfl) (Vws.refl _))
 ·have hko:k<=off ps ps.length:=by
   rcases Nat.lt_or_ge (off ps ps.length) k with h|h
   ·exact absurd (levF_end hv h) hlv
   ·exact h
  have hpos:0<(levF ps k).length:=List.length_pos_iff.2 hlv
  have hne:¬(levF ps k).map aInts=[]:=fun h=>hlv (by simpa using h)
  have hposi:(0:Int)<((levF ps k).length:Int):=by omega
  have hcs:=cumF_succ ps k
  have hcsl:(cumF ps (k+1)).length=(cumF ps k).length+(levF ps k).length:=by rw[hcs,List.length_append]
  have hmono:=cumF_mono (ps:=ps) (j:=k+1) (k:=off ps ps.length+1) (by omega)
  have hcutl:(cumF ps (off ps ps.length+1)).length=(cutsF ps).length:=rfl
  have hmore:(levF ps k).length<=5000->(levF ps (k+1)).length<=40000:=fun h=>by
   have:=moreT_len (ps:=ps) (B:=ps.length) (l:=levF ps k) (acc:=[]) fun c hc=>by rw[(hisF c (hlevk c hc)).2];exact Nat.le_refl _
   have h2:(levF ps k).length * ps.length<=5000 * 8:=Nat.mul_le_mul h hl8
   have h3:(levF ps (k+1)).length=((levF ps k).foldl (fun acc c=>insL acc (nextL ps c)) []).length:=rfl
   rw[h3]
   simp only[List.length_nil] at this
   omega
  have hys:(cumF ps (k+1)).map aInts=(cumF ps k).map aInts ++ (levF ps k).map aInts:=by rw[hcs,List.map_append]
  have hyl:((cumF ps k).map aInts).length=(cumF ps k).length:=List.length_map _
  simp only[go_sem]
  refine Sd ?_
  refine AWp.of ?_;simp only[go_sem,hposi]
  refine Sd ?_
  refine AWp.of ?_;simp only[go_sem,hposi]
  refine AWp.block (AWp.cut [1,4,5] (fun vs L=>∃b cap,vs=[.rp 1 [aTr ps] 0 0,.sl 1 ((levF ps k).map aInts),.ls b 1 0 (cumF ps (k+1)).length cap]/\L=[(b,.row 95 1 ((cumF ps (k+1)).map aInts) cap)]) ?_ ?_)
  ·rw[hys,hcsl]
   generalize hY:(cumF ps k).map aInts=ys at *
   rcases hA.inv with ⟨e1,rfl,rfl⟩|⟨bq,cap,rfl,rfl⟩
   ·refine W1 hne ?_
    intro b' cap' _
    refine⟨_,.refl _,b',cap',?_,by rw[e1];rfl⟩
    rw[e1] at hyl
    rw[<- hyl];simp
   ·refine W1 hne ?_
    intro b' cap' _
    refine⟨_,.refl _,b',cap',?_,?_⟩
    ·rw[hyl]
    ·simp
  rintro vs L - ⟨b,cap,rfl,rfl⟩
  have hcl1:((cumF ps (k+1)).map aInts).length=(cumF ps (k+1)).length:=List.length_map _
  generalize hCC:(cumF ps (k+1)).map aInts=CC at *
  simp only[go_sem]
  by_cases h5k:5000<(cumF ps (k+1)).length
  ·have h5i:(5000:Int)<((cumF ps (k+1)).length:Int):=by omega
   rw[if_pos (by omega)]
   repeat(first|((with_reducible refine AWp.ofC ?_ ?_);exact rfl;simp only[go_sem,h5i])|((with_reducible refine an ?_ ?_);exact Au))
   refine ret_view [] ?_;simp only[go_sem]
   exact .mkTup (Vws.cons (.nil 1) (Vws.refl _))
  ·have h5i:¬(5000:Int)<((cumF ps (k+1)).length:Int):=by omega
   have hmore:=hmore (by omega)
   repeat(first|((with_reducible refine AWp.ofC ?_ ?_);exact rfl;simp only[go_sem,h5i])|((with_reducible refine an ?_ ?_);exact Au))
   refine AWp.view [false] [(6,.sl 1 ((moreT ps ((levF ps k).take 0)).map aInts))] (LVw.refl _) ?_ ?_
   ·intro q hq
    simp only[List.mem_singleton] at hq
    subst hq
    simp only[go_sem,pickT]
    exact .nil 1
   simp only[go_sem,pickF]
   have hMl:∀i,(moreT ps ((levF ps k).take i)).length<=40000:=fun i=>by
    have:=moreT_len (ps:=ps) (B:=ps.length) (l:=(levF ps k).take i) (acc:=[]) fun c hc=>by rw[(hisF c (hlevk c (List.mem_of_mem_take hc))).2];exact Nat.le_refl _
    have h2:((levF ps k).take i).length * ps.length<=5000 * 8:=Nat.mul_le_mul (by rw[List.length_take];omega) hl8
    have h3:(moreT ps ((levF ps k).take i)).length=(((levF ps k).take i).foldl (fun acc c=>insL acc (nextL ps c)) []).length:=rfl
    rw[h3]
    simp only[List.length_nil] at this
    omega
   have hMi:∀i,∀x ∈ moreT ps ((levF ps k).take i),isF ps x=true:=fun i x hx=>by
    unfold moreT at hx
    rcases mem_more.1 hx with h|⟨c,_,h⟩
    ·cases h
    ·exact hnxt c x h
   have hMe:moreT ps ((levF ps k).take (levF ps k).length)=levF ps (k+1):=by rw[List.take_length];rfl
   refine AWp.block (AWp.count 7 (levF ps k).length [6] [1,4,5] (fun i vs L=>L=[(b,.row 95 1 CC cap)]/\vs=[.sl 1 ((moreT ps ((levF ps k).take i)).map aInts)]) rfl rfl ⟨rfl,rfl⟩ ?_)
   rintro i vs L hi - ⟨rfl,rfl⟩
   by_cases hil:i<(levF ps k).length
   ·have hii:(i:Int)<((levF ps k).length:Int):=by omega
    have g:=getD_map (f:=aInts) hil
    have hci:=hlevk _ (List.getElem_mem hil)
    have hNi:=hNx _ hci
    have hms:=moreT_succ (ps:=ps) hil
    have hMl:=hMl i
    have hMi:=hMi i
    have hnxc:=hnxt (levF ps k)[i]
    have hnl:(nextL ps (levF ps k)[i]).length<=8:=by
     have:=nextT_len ps (levF ps k)[i] (levF ps k)[i].length
     have h2:=(hisF _ hci).2
     have h3:(nextL ps (levF ps k)[i]).length=(nextT ps (levF ps k)[i] (levF ps k)[i].length).length:=rfl
     omega
    generalize moreT ps ((levF ps k).take i)=M at *
    generalize hM':moreT ps ((levF ps k).take (i+1))=M' at *
    generalize hnx:nextL ps (levF ps k)[i]=nx at *
    generalize (levF ps k)[i]=c at *
    simp only[go_sem]
    refine W1 hii ?_
    refine AWp.seq (AWp.block (AWp.seq ?_))
    refine Sq ?_
    refine AWp.mix mixed [0,1,2,3,4,5,6] .done (by kernel_rfl) ?_;simp only[go_sem,g]
    refine Sd ?_
    refine GCall.use (.sl 1 (nx.map aInts)) (fun _=>⟨At,hNi.val.use ⟨rfl,rfl⟩⟩) ?_
    simp only[go_sem]
    refine Wk ?_
    refine AWp.block (AWp.count 9 nx.length [6] [1,4,5,7,8] (fun j vs L=>L=[(b,.row 95 1 CC cap)]/\vs=[.sl 1 ((insL M (nx.take j)).map aInts)]) rfl rfl ⟨rfl,rfl⟩ ?_)
    rintro j vs L hj - ⟨rfl,rfl⟩
    by_cases hjl:j<nx.length
    ·have hji:(j:Int)<(nx.length:Int):=by omega
     have g2:=getD_map (f:=aInts) hjl
     have hcj:=hisF _ (hnxc _ (List.getElem_mem hjl))
     have hIns:=ref23_insert (insL M (nx.take j)) nx[j] (by have:=insL_len (nx.take j) M;rw[List.length_take] at this;omega) hcj.1 fun x hx=>by
      have hx1:isF ps x=true:=by
       rcases mem_insL.1 hx with h|h
       ·exact hMi x h
       ·exact hnxc x (List.mem_of_mem_take h)
      have:=hisF x hx1
      exact⟨this.1,by rw[this.2,hcj.2]⟩
     have his:=insL_succ (acc:=M) hjl
     rw[<- his] at hIns
     simp only[go_sem]
     refine W2 hji g2 ?_
     refine Sd ?_
     refine Vu hIns ?_
     refine Wk ?_
     exact⟨_,.refl _,rfl⟩
    ·have hji:¬(j:Int)<(nx.length:Int):=by omega
     have hje:j=nx.length:=by omega
     subst hje
     rw[List.take_length,<- hms]
     simp only[go_sem]
     refine W1 hji ?_
     exact⟨_,.refl _,rfl,by rw[hM']⟩
   ·have hii:¬(i:Int)<((levF ps k).length:Int):=by omega
    have hie:i=(levF ps k).length:=by omega
    subst hie
    rw[hMe]
    simp only[go_sem]
    refine W1 hii ?_
    refine⟨_,.refl _,_,?_,k+1,_,rfl,?_,by omega,hmore,by omega,rfl⟩
    ·omega
    ·rw[hCC,<- hcl1]
     exact .row _ _ _
theorem off_small {ps:List Pr}(hs:Sm ps):∀k,k<=ps.length->off ps k<=k * 1000000:=by
 intro k
 induction k with
 | zero=>intro _;simp [off]
 | succ k ih =>
  intro hk
  rw[off_succ (by omega)]
  have h1:=ih (by omega)
  have h2:=hs.evs _ (List.getElem_mem (show k<ps.length by omega))
  omega
def nlev (ps:List Pr):Nat:=(List.range (off ps ps.length+2)).findIdx fun k=>(levF ps k).isEmpty
theorem range_findIdx (p:Nat->Bool)(n:Nat)(h:(List.range n).findIdx p<n):p ((List.range n).findIdx p)=true:=by
 have w:(List.range n).findIdx p<(List.range n).length:=by rw[List.length_range];exact h
 have:=List.findIdx_getElem (w:=w)
 rwa [List.getElem_range] at this
theorem nlev_lt {ps:List Pr}{j:Nat}(h:j<nlev ps):levF ps j ≠ []:=fun e=>by
 unfold nlev at h
 have hl:j<(List.range (off ps ps.length+2)).length:=Nat.lt_of_lt_of_le h List.findIdx_le_length
 have:=List.not_of_lt_findIdx h
 rw[List.getElem_range] at this
 simp [e] at this
theorem nlev_eq {ps:List Pr}{k:Nat}(hk:k<=nlev ps)(h:levF ps k=[]):k=nlev ps:=by
 rcases Nat.lt_or_ge k (nlev ps) with h1|h1
 ·exact absurd h (nlev_lt h1)
 ·omega
theorem nlev_succ {ps:List Pr}(hv:validF ps=true){k:Nat}(hk:k<=nlev ps)(h:levF ps k ≠ []):k+1<=nlev ps:=by
 rcases Nat.lt_or_ge k (nlev ps) with h1|h1
 ·omega
 ·exfalso
  have e:k=nlev ps:=by omega
  have hko:k<=off ps ps.length:=by
   rcases Nat.lt_or_ge (off ps ps.length) k with h|h'
   ·exact absurd (levF_end hv h) ‹levF ps k ≠ []›
   ·exact h'
  have this:(levF ps (nlev ps)).isEmpty=true:=range_findIdx (fun k=>(levF ps k).isEmpty) _ (show nlev ps<_ by omega)
  rw[e] at h
  exact h (List.isEmpty_iff.1 this)
def lvsF (ps:List Pr)(k:Nat):List AV:=(List.range k).map fun j=>aRows (levF ps j)
theorem lvsF_succ (ps:List Pr)(k:Nat):lvsF ps (k+1)=lvsF ps k ++ [aRows (levF ps k)]:=by unfold lvsF;rw[List.range_succ,List.map_append];rfl
theorem lvsF_len (ps:List Pr)(k:Nat):(lvsF ps k).length=k:=by simp [lvsF]
noncomputable def aLvs (ps:List Pr):AV:=if validF ps=true then (if (cutsF ps).length<=5000 then .tup [.sl 1 (lvsF ps (nlev ps)),ai 0] else .tup [.sl 1 [],ai 16]) else .tup [.sl 1 [],ai 1]
theorem cuts_levels (ps:List Pr)(hs:Sm ps):PC prog 120 [aTr ps] (aLvs ps):=by
 have hva:=trace_Valid ps hs
 unfold aLvs
 refine PE 35 [.tmp 2,.tmp 3] [1,4,32] func120 ?_;simp only[go_sem]
 refine Wk ?_
 refine Sd ?_
 refine Vu hva ?_
 cases hv:validF ps with
 | false =>
  refine Wk ?_
  refine ret_view [] ?_;simp only[go_sem]
  exact .mkTup (Vws.cons (.nil 1) (Vws.refl _))
 | true =>
  obtain⟨hl1,hl8⟩:=valid_len hv
  have hof:=cuts_of ps hs hv
  rw[if_pos rfl]
  unfold aMk at hof
  refine Wk ?_
  refine Sd ?_
  refine Vu hof ?_
  intro b4
  refine Wk ?_
  intro b0 b1 g1
  have n1:¬b1=b0:=by omega
  have n2:¬b0=b1:=by omega
  refine AWp.view [true,true] [(5,.sl 1 ((levF ps 0).map aInts))] (LVw.refl _) ?_ ?_
  ·intro q hq
   simp only[List.mem_singleton] at hq
   subst hq
   simp only[go_sem,pickT]
   have e:List.replicate ps.length (ai 0)=(List.replicate ps.length (0:Int)).map ai:=(List.map_replicate).symm
   rw[e]
   exact Vw.ofLs' (t:=95) (cap:=1) (if_pos rfl) rfl (Vws.cons (Vw.ofLs (t:=3) (cap:=ps.length) (by simp only[lk,n2,if_false,if_true]) (by rw[List.length_map,List.length_replicate])) .nil)
  simp only[go_sem,pickF]
  have hz0:(0:Int)=((cumF ps 0).length:Nat):=rfl
  have hof1:1<=off ps ps.length+1:=by omega
  refine Wk ?_
  refine AWp.block (AWp.loopN [5,6,7] [4] (fun m vs L=>∃(k:Nat) (v:AV),vs=[.sl 1 ((levF ps k).map aInts),v,ai (cumF ps k).length]/\AppSt 33 1 (lvsF ps k) v L/\(cumF ps k).length<=5000/\(levF ps k).length<=40000/\k<=nlev ps/\k<=off ps ps.length+1/\m=off ps ps.length+1 - k) (off ps ps.length+1) ⟨0,anil,rfl,.nil,by simp [cumF],by simp [levF],by omega,by omega,rfl⟩ ?_)
  rintro m vs L - ⟨k,v,rfl,hA,h5,hl4,hkn,hk,rfl⟩
  by_cases hlv:levF ps k=[]
  ·have hz:¬(0:Int)<((levF ps k).length:Int):=by rw[hlv];simp
   have hcut:cutsF ps=cumF ps k:=by
    unfold cutsF
    rw[show off ps ps.length+1=k+(off ps ps.length+1 - k) by omega,cumF_end hlv]
   rw[hcut,if_pos h5,<- nlev_eq hkn hlv]
   generalize lvsF ps k=ys at *
   rcases hA.inv with ⟨e1,rfl,rfl⟩|⟨bq,cap,rfl,rfl⟩
   ·simp only[go_sem]
    refine W1 hz ?_
    refine ret_view [] ?_;simp only[go_sem]
    rw[e1]
    exact .mkTup (Vws.cons (.nil 1) (Vws.refl _))
   ·simp only[go_sem]
    refine W1 hz ?_
    refine ret_view [true] ?_;simp only[go_sem]
    exact .mkTup (Vws.cons (Vw.ofLs (if_pos rfl) rfl) (Vws.refl _))
  ·have hko:k<=off ps ps.length:=by
    rcases Nat.lt_or_ge (off ps ps.length) k with h|h
    ·exact absurd (levF_end hv h) hlv
    ·exact h
   have hpos:0<(levF ps k).length:=List.length_pos_iff.2 hlv
   have hposi:(0:Int)<((levF ps k).length:Int):=by omega
   have hcs:=cumF_succ ps k
   have hcsl:(cumF ps (k+1)).length=(cumF ps k).length+(levF ps k).length:=by rw[hcs,List.length_append]
   have hmono:=cumF_mono (ps:=ps) (j:=k+1) (k:=off ps ps.length+1) (by omega)
   have hcutl:(cumF ps (off ps ps.length+1)).length=(cutsF ps).length:=rfl
   have hsum:=nlev_succ hv hkn hlv
   have hmore:(levF ps k).length<=5000->(levF ps (k+1)).length<=40000:=fun h=>by
    have:=moreT_len (ps:=ps) (B:=ps.length) (l:=levF ps k) (acc:=[]) fun c hc=>by rw[(isF_iff.1 ((mem_levF hv k c).1 hc).1).1];exact Nat.le_refl _
    have h2:(levF ps k).length * ps.length<=5000 * 8:=Nat.mul_le_mul h hl8
    have h3:(levF ps (k+1)).length=((levF ps k).foldl (fun acc c=>insL acc (nextL ps c)) []).length:=rfl
    rw[h3]
    simp only[List.length_nil] at this
    omega
   have hnx:=fun h=>maker_next ps hs hv k h
   unfold aMk aRows at hnx
   have hys:=lvsF_succ ps k
   have hyl:=lvsF_len ps k
   unfold aRows at hys
   have hofl:off ps ps.length<=8000000:=by
    have:=off_small hs ps.length (Nat.le_refl _)
    omega
   rcases hA.inv with ⟨e1,rfl,rfl⟩|⟨bq,cap,rfl,rfl⟩
   ·simp only[go_sem]
    repeat(first|((with_reducible refine AWp.ofC ?_ ?_);exact rfl;simp only[go_sem,hposi])|((with_reducible refine an ?_ ?_);exact Au))
    refine Wk ?_
    constructor<;>intro h9
    ·rw[if_neg (by omega)]
     refine Wk ?_
     refine ret_view [] ?_;simp only[go_sem]
     exact .mkTup (Vws.cons (.nil 1) (Vws.refl _))
    ·have hnx:=hnx (by omega)
     refine Wk ?_
     intro b' cap' hc'
     refine Wk ?_
     refine Sd ?_
     refine Vu hnx ?_
     refine Wk ?_
     refine⟨_,.refl _,_,?_,k+1,.ls b' 1 0 1 cap',by rw[hcsl];simp,?_,by omega,hmore (by omega),hsum,by omega,rfl⟩
     ·omega
     ·rw[hys,e1];exact .row b' [_] cap'
   ·simp only[go_sem]
    repeat(first|((with_reducible refine AWp.ofC ?_ ?_);exact rfl;simp only[go_sem,hposi])|((with_reducible refine an ?_ ?_);exact Au))
    refine Wk ?_
    constructor<;>intro h9
    ·rw[if_neg (by omega)]
     refine Wk ?_
     refine ret_view [true] ?_;simp only[go_sem]
     exact .mkTup (Vws.cons (.nil 1) (Vws.refl _))
    ·have hnx:=hnx (by omega)
     refine W1 hyl ?_
     intro b' cap' hc'
     refine Wk ?_
     refine Sd ?_
     refine Vu hnx ?_
     refine Wk ?_
     refine⟨_,.refl _,_,?_,k+1,.ls b' 1 0 (k+1) cap',by rw[hcsl];simp,?_,by omega,hmore (by omega),hsum,by omega,rfl⟩
     ·omega
     ·rw[hys,show List.take k (lvsF ps k)=lvsF ps k from List.take_of_length_le (by omega)];exact AppSt.snoc b' cap' (k+1) (congrArg (· + 1) hyl.symm)
end Go.AL
end
