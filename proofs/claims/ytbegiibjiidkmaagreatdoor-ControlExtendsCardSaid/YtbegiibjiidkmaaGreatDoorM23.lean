/- Texts of this claim's proof: WZ8, WY28, WY29, WY18, WY10, WY17, WY30. No condition. -/
import Derived.Test.YtbegiibjiidkmaaGreatDoorM22
import Derived.Test.YtbegiibjiidkmaaGreatDoorM20
import Derived.Test.YtbegiibjiidkmaaGreatDoorM12
import Derived.Test.YtbegiibjiidkmaaGreatDoorM14
import Derived.Test.YtbegiibjiidkmaaGreatDoorM15
import Derived.Test.YtbegiibjiidkmaaGreatDoorM19
import Derived.Test.YtbegiibjiidkmaaGreatDoorM17
section
namespace Go.AL
open Go Go.RowKit Proofs.Tryz
set_option maxRecDepth 4000
def aNsP (x:Nat × (Nat->Bool)):AV:=.agg [ai x.1,.sl 1 ((wordsF x.2 x.1 x.1).map fun w:Nat=>au64 (w:Int))]
def aNss (l:List (Nat × (Nat->Bool))):AV:=.sl 2 (l.map aNsP)
theorem nsets_indexFunc (l:List (Nat × (Nat->Bool)))(hl:l.length<=1000000)(g:AV)(hgf:fo g=(True,g))(p:(Nat × (Nat->Bool))->Bool)(hg:∀x ∈ l,PV prog g [aNsP x] (ab (p x))) :
  PC prog 136 [aNss l,g] (ai (match l.findIdx? p with|some i=>(i:Int)|none=>-1)):=by
 refine PE 19 [.tmp 4] [] func136 ?_;simp only[go_sem]
 refine Sd ?_
 refine AWp.of ?_;simp only[go_sem,aNss]
 refine AWp.range' l.length [] [0,1,7] (fun k vs L=>L=[]/\∀i (h:i<l.length),i<k->p l[i]=false) (by omega) rfl rfl rfl ⟨rfl,by omega⟩ ?_ ?_
 ·rintro k vs L' hk hvs ⟨rfl,hI⟩
  simp only[go_sem]
  refine Sd ?_
  refine Ao ?_
  have hgk:=hg l[k] (List.getElem_mem hk)
  try simp only[go_sem,aNsP] at hgk
  refine Sd ?_
  refine AWp.of ?_;simp only[go_sem,getD_map hk,hgf,aNsP]
  refine⟨⟨by omega,by omega⟩,hk,hgk.use (AWp.of ?_)⟩;simp only[go_sem]
  refine⟨fun ht=>?_,fun hf=>?_⟩
  ·refine Sd ?_
   refine Ao ?_
   refine Rq ?_
   have:l.findIdx? p=some k:=by rw[List.findIdx?_eq_some_iff_getElem];exact⟨hk,ht,fun j hj=>by simpa using hI j (by omega) hj⟩
   rw[this]
  ·refine⟨[],List.Sublist.refl _,rfl,fun i h hi=>?_⟩
   by_cases e:i=k
   ·subst e;exact hf
   ·exact hI i h (by omega)
 ·rintro vs L' hvs ⟨rfl,hI⟩
  simp only[go_sem]
  refine Sd ?_
  refine Ao ?_
  refine Sd ?_
  refine Ao ?_
  refine Rq ?_
  have:l.findIdx? p=none:=by rw[List.findIdx?_eq_none_iff];intro x hx;obtain⟨i,hi,rfl⟩:=List.getElem_of_mem hx;exact hI i hi hi
  rw[this]
theorem nsets_containsFunc (l:List (Nat × (Nat->Bool)))(hl:l.length<=1000000)(g:AV)(hgf:fo g=(True,g))(p:(Nat × (Nat->Bool))->Bool)(hg:∀x ∈ l,PV prog g [aNsP x] (ab (p x))) :
  PC prog 86 [aNss l,g] (ab (l.any p)):=by
 refine PE 9 [.tmp 4] [] func86 ?_;simp only[go_sem]
 refine Sd ?_
 refine AWp.of ?_;simp only[go_sem,hgf,aNss]
 refine(nsets_indexFunc l hl g hgf p hg).val.use ?_
 simp only[go_sem]
 refine Sd ?_
 refine Ao ?_
 refine Rq ?_
 congr 2;exact findIdx_any l p
def aRelN (n:Nat)(F:Nat->Nat->Bool):AV:=.agg [.sl 2 ((List.range n).map fun i=>aNs n (F i))]
theorem aRelN_eq (n:Nat)(F:Nat->Nat->Bool):aRelN n F = .agg [.sl 2 ((List.range n).map fun i=>aNs n (F i))]:=rfl
theorem aRelN_R (n:Nat)(F:Nat->Nat->Bool):aRelR n ((List.range n).map fun i=>wordsF (F i) n n)=aRelN n F:=by
 unfold aRelR aRelN
 rw[List.map_map];rfl
theorem aRelN_P (n:Nat)(F:Nat->Nat->Bool) : .sl 2 ((List.range n).map fun i=>aNs n (F i))=aNss ((List.range n).map fun i=>(n,F i)):=by
 unfold aNss
 rw[List.map_map];rfl
theorem relation_Valid1 (n:Nat)(hn:n<=512)(f:Nat->Bool)(xs:List AV)(hx:xs.length=n):PC prog 87 [aNs n f,.rp 1 [.agg [.sl 2 xs]] 0 0] (ab false):=by
 have h1:=bits_Valid n hn f
 rw[aNs_eq] at *
 generalize (wordsF f n n).map (fun w:Nat=>au64 (w:Int))=W at *
 refine PE 15 [.tmp 3] [2] func87 ?_;simp only[go_sem]
 refine W1 hx ?_
 refine Sd ?_
 refine GCall.use (ab true) (fun _=>⟨At,(h1).val.use ⟨rfl,rfl⟩⟩) ?_;simp only[go_sem,hx]
 refine Sd ?_
 refine W1 hx ?_
 exact Rz
theorem relation_Valid (n:Nat)(hn:n<=512)(F:Nat->Nat->Bool):PC prog 47 [aRelN n F] (ab true):=by
 have hlen:((List.range n).map fun i=>aNs n (F i)).length=n:=by simp
 have h1:PC prog 86 [.sl 2 ((List.range n).map fun i=>aNs n (F i)),.clo 87 [.rp 1 [.agg [.sl 2 ((List.range n).map fun i=>aNs n (F i))]] 0 0]] (ab false):=by
  have h:=nsets_containsFunc ((List.range n).map fun i=>(n,F i)) (by simp;omega) (.clo 87 [.rp 1 [.agg [.sl 2 ((List.range n).map fun i=>aNs n (F i))]] 0 0]) rfl (fun _=>false) fun x hx=>by
   obtain⟨i,_,rfl⟩:=List.mem_map.1 hx
   exact(relation_Valid1 n hn (F i) _ hlen).clo
  rw[<- aRelN_P] at h
  have:(((List.range n).map fun i=>(n,F i)).any fun _=>false)=false:=by simp
  rw[this] at h
  exact h
 have hn1:(n:Int)<=512:=by omega
 rw[aRelN_eq]
 generalize (List.range n).map (fun i=>aNs n (F i))=R at *
 refine PE 14 [.tmp 2] [1] func47 ?_;simp only[go_sem]
 refine W2 hlen hn1 ?_
 refine Sd ?_
 refine GCall.use (ab false) (fun _=>⟨At,(h1).val.use ⟨rfl,rfl⟩⟩) ?_;simp only[go_sem,hlen,hn1]
 refine Sd ?_
 refine W2 hlen hn1 ?_
 exact Rz
theorem filR_get {f:Nat->Bool}{n k:Nat}(h:k<(filR f n).length):∃j,(filR f n).getD k .any=ai (j:Nat)/\j<n/\f j=true:=by
 unfold filR at *
 rw[List.length_map] at h
 have hm:=List.getElem_mem h
 obtain⟨h1,h2⟩:=List.mem_filter.1 hm
 exact⟨_,by rw[List.getD_eq_getElem?_getD,List.getElem?_map,List.getElem?_eq_getElem h];rfl,List.mem_range.1 h1,h2⟩
theorem poset_Valid (n:Nat)(hn:n<=512)(F:Nat->Nat->Bool)(hirr:∀i,i<n->F i i=false)(htr:∀i j k,i<n->j<n->k<n->F i j=true->F j k=true->F i k=true):PC prog 16 [aRelN n F] (ab true):=by
 have h1:=relation_Valid n hn F
 have hlen:((List.range n).map fun i=>aNs n (F i)).length=n:=by simp
 have hg:∀i,i<n->((List.range n).map fun i=>aNs n (F i)).getD i .any=aNs n (F i):=fun i hi=>map_range_getD hi _
 have hm:=fun i=>bits_Members n hn (F i)
 have hs:∀i j,i<n->j<n->F i j=true->PC prog 49 [aNs n (F j),aNs n (F i)] (ab true):=fun i j hi hj h=>by
  have:=bits_Subset n hn (F j) (F i)
  have e:subN n (F j) (F i)=true:=by
   unfold subN
   rw[List.all_eq_true]
   intro k hk
   cases h2:F j k with
   | false=>rfl
   | true=>rw[htr i j k hi hj (List.mem_range.1 hk) h h2];rfl
  rwa [e] at this
 rw[aRelN_eq] at *
 generalize (List.range n).map (fun i=>aNs n (F i))=R at *
 refine PE 46 [.tmp 2] [1,4] func16 ?_;simp only[go_sem]
 refine Wk ?_
 refine Sd ?_
 refine Vu h1 ?_
 refine W1 hlen ?_
 refine AWp.range' n [] [1,13,14] (fun i vs L=>vs=[]/\L=[]) (by omega) rfl rfl rfl ⟨rfl,rfl⟩ ?_ ?_
 ·rintro i vs L hi - ⟨rfl,rfl⟩
  have hgi:=hg i hi
  have hmi:=hm i
  have hsi:=fun j=>hs i j hi
  have hir:=hirr i hi
  have hfl:=filR_len (f:=F i) (j:=n)
  have hfg:=fun k h=>filR_get (f:=F i) (n:=n) (k:=k) h
  have hgj:=fun j hj=>hg j hj
  rw[aNs_eq n (F i)] at hgi hmi hsi
  generalize (wordsF (F i) n n).map (fun w:Nat=>au64 (w:Int))=W at *
  generalize hF:filR (F i) n=M at *
  simp only[go_sem]
  refine W1 hgi ?_
  intros
  refine W1 hgi ?_
  refine Sd ?_
  refine Vu hmi ?_
  refine Wk ?_
  refine AWp.range' M.length [] [1,3,4,13,14,15,25,26] (fun i vs L=>vs=[]/\L=[]) (by omega) rfl rfl rfl ⟨rfl,rfl⟩ ?_ ?_
  ·rintro k vs L hk - ⟨rfl,rfl⟩
   obtain⟨j,hj,hjn,hf⟩:=hfg k hk
   have hsj:=hsi j hjn hf
   have hgj2:=hgj j hjn
   have hne:¬((j:Nat):Int)=i:=fun e=>by
    have:j=i:=by omega
    subst this
    rw[hir] at hf;cases hf
   rw[aNs_eq n (F j)] at hsj hgj2
   generalize (wordsF (F j) n n).map (fun w:Nat=>au64 (w:Int))=V at *
   simp only[go_sem]
   refine W1 hj ?_
   refine Sq ?_
   refine AWp.mix mixed [0,1,2,3,4,5,6,7,8,9,10,11,12] .done (by kernel_rfl) ?_;simp only[go_sem,hj,hne,hgj2,hlen]
   refine Sd ?_
   refine Sd ?_
   refine GCall.use (ab true) (fun _=>⟨At,(hsj).val.use ⟨rfl,rfl⟩⟩) ?_;simp only[go_sem,hlen]
   refine Sd ?_
   refine Wk ?_
   exact⟨_,.refl _,rfl⟩
  ·rintro vs L - ⟨rfl,rfl⟩
   simp only[go_sem]
   refine Wk ?_
   exact⟨_,.refl _,rfl⟩
 ·rintro vs L - ⟨rfl,rfl⟩
  simp only[go_sem]
  refine Wk ?_
  exact Rz
theorem poset_element (n:Nat)(F:Nat->Nat->Bool)(i:Int):PC prog 50 [aRelN n F,ai i] (ab (decide (0<=i) && decide (i<n))):=by
 have hlen:((List.range n).map fun i=>aNs n (F i)).length=n:=by simp
 rw[aRelN_eq]
 generalize (List.range n).map (fun i=>aNs n (F i))=R at *
 refine PE 14 [.tmp 4] [2] func50 ?_;simp only[go_sem]
 refine W1 hlen ?_
 exact Rz
theorem poset_Less (n:Nat)(hn:n<=512)(F:Nat->Nat->Bool)(hirr:∀i,i<n->F i i=false)(htr:∀i j k,i<n->j<n->k<n->F i j=true->F j k=true->F i k=true)(i j:Nat)(hi:i<n)(hj:j<n) :
  PC prog 17 [aRelN n F,ai i,ai j] (ab (F i j)):=by
 have h1:=poset_Valid n hn F hirr htr
 have h2:=poset_element n F i
 have h3:=poset_element n F j
 have h4:=bits_Has n hn (F i) j
 have ei:(decide ((0:Int)<=(i:Nat)) && decide (((i:Nat):Int)<n))=true:=by simp;omega
 have ej:(decide ((0:Int)<=(j:Nat)) && decide (((j:Nat):Int)<n))=true:=by simp;omega
 rw[ei] at h2
 rw[ej] at h3
 rw[ej,Bool.true_and,Int.toNat_natCast] at h4
 have hlen:((List.range n).map fun i=>aNs n (F i)).length=n:=by simp
 have hg:((List.range n).map fun i=>aNs n (F i)).getD i .any=aNs n (F i):=map_range_getD hi _
 rw[aRelN_eq] at *
 rw[aNs_eq n (F i)] at hg h4
 generalize (wordsF (F i) n n).map (fun w:Nat=>au64 (w:Int))=V at *
 generalize (List.range n).map (fun i=>aNs n (F i))=R at *
 generalize F i j=x at *
 refine PE 28 [.tmp 6] [3] func17 ?_;simp only[go_sem]
 refine Wk ?_
 refine Sd ?_
 refine Vu h1 ?_
 refine Sd ?_
 refine Gc h2 ?_
 refine Sd ?_
 refine Gc h3 ?_
 simp only[go_sem,hg,hlen]
 refine Sd ?_
 refine Sd ?_
 refine Gc h4 ?_
 refine Sd ?_
 refine Wk ?_
 exact Rz
noncomputable def ordQ (ps:List Pr)(l:List Syn):Int:=if validF ps=false then 1 else syE ps l
noncomputable def aOrdA (ps:List Pr)(l:List Syn):AV:=.tup [aRelR (off ps ps.length) (if ordQ ps l=0 then relX ps (exF ps l) else []),ai (ordQ ps l)]
theorem aOrdA_bad {ps:List Pr}{l:List Syn}(h:validF ps=false):aOrdA ps l = .tup [aRelR (off ps ps.length) [],ai 1]:=by
 have hq:ordQ ps l=1:=by unfold ordQ;rw[if_pos h]
 unfold aOrdA
 rw[hq,if_neg (by decide)]
theorem aOrdA_ok {ps:List Pr}{l:List Syn}(h:validF ps=true):aOrdA ps l = .tup [aRelR (off ps ps.length) (if syE ps l=0 then relX ps (exF ps l) else []),ai (syE ps l)]:=by
 have hq:ordQ ps l=syE ps l:=by unfold ordQ;rw[if_neg (by rw[h];decide)]
 unfold aOrdA
 rw[hq]
theorem syE_zero {ps:List Pr}{l:List Syn}(h:syE ps l=0):l.length<=1000/\SynOk ps l/\lftX ps (exF ps l)=0:=by
 unfold syE at h
 split at h
 ·cases h
 ·split at h
  ·cases h
  ·split at h
   ·rename_i h1 h2 h3
    exact⟨by omega,syn_bad.1 (by simpa using h2),h3⟩
   ·cases h
theorem control_OrderNo {ps:List Pr}{l:List Syn}{e:Int}(he:e ≠ 0)(h1:PC prog 33 [aTr ps,.sl 4 (l.map aSyn)] (.tup [.v (.pointer none),ai e]))(n:Nat):PC prog 13 [aTr ps,.sl 4 (l.map aSyn)] (.tup [aRelR n [],ai e]):=by
 refine PE 109 [.cell 4 45,.tmp 5] [2,13,16,17,88,104] func13 ?_;simp only[go_sem]
 intro b4
 refine Wk ?_
 refine Sd ?_
 refine Vu h1 ?_
 refine W1 he ?_
 refine ret_view [true] ?_;simp only[go_sem]
 exact .mkTup (Vws.cons (Vw.mkAgg (Vws.cons (.nil 2) .nil)) (Vws.refl _))
theorem control_Order (ps:List Pr)(hs:Sm ps)(l:List Syn)(hll:l.length<=1000000):PC prog 13 [aTr ps,.sl 4 (l.map aSyn)] (aOrdA ps l):=by
 have h1:=control_check ps hs l hll
 cases hv:validF ps with
 | false =>
  have:aChk ps l = .tup [.v (.pointer none),ai 1]:=by unfold aChk;rw[if_pos hv]
  rw[this] at h1
  rw[aOrdA_bad hv]
  exact control_OrderNo (by decide) h1 _
 | true =>
  rw[aOrdA_ok hv]
  by_cases h0:syE ps l=0
  ·obtain⟨_,h2,h3⟩:=syE_zero h0
   have hG:=exF_gen ps l
   rw[if_pos h0,h0]
   exact control_OrderOk ps hs hv l hll h0 (tab_ok hv h2 hG ((lft_whl hG).1 h3))
  ·have:aChk ps l = .tup [.v (.pointer none),ai (syE ps l)]:=by unfold aChk;rw[if_neg (by rw[hv];decide),if_neg h0]
   rw[this] at h1
   rw[if_neg h0]
   exact control_OrderNo h0 h1 _
def szW (ps:List Pr):Int:=if 10<ps.length then 1000 else if ps.all smP=true then smW ps ps.length else 1000
theorem szW_sm {ps:List Pr}{m:Int}(hm:m<1000)(h:szW ps<=m):smF ps m=true:=by
 unfold szW at h
 unfold smF
 split at h
 ·omega
 ·split at h
  ·rename_i h1 h2
   rw[h2,decide_eq_true (by omega),decide_eq_true h];rfl
  ·omega
theorem law44_size1 (e:Ev):PC prog 25 [aEv e] (ab (asg12 e)):=by
 refine PE 7 [.tmp 2] [1] func25 ?_;simp only[go_sem]
 refine Wk ?_
 refine Rq ?_
 rfl
theorem law44_size (ps:List Pr)(hpl:ps.length<=9223372036854775807)(hl:∀p ∈ ps,p.evs.length<=9223372036854775807):PC prog 6 [aTr ps] (ai (szW ps)):=by
 by_cases h10:ps.length<=10
 ·have h10i:¬(10:Int)<(ps.length:Int):=by omega
  have hsf:szW ps=if ps.all smP=true then smW ps ps.length else 1000:=by unfold szW;rw[if_neg (by omega)]
  refine PE 33 [.tmp 2] [1,5] func6 ?_;simp only[go_sem]
  repeat(first|((with_reducible refine AWp.ofC ?_ ?_);exact rfl;simp only[go_sem,h10i])|((with_reducible refine an ?_ ?_);exact Au))
  refine AWp.range1' ps.length [3] [11,12] (fun k vs L=>L=[]/\vs=[ai (smW ps k)]/\∀(j:Nat) (hj:j<ps.length),j<k->smP ps[j]=true) (by omega) rfl rfl rfl ⟨rfl,rfl,fun _ _ h=>by omega⟩ ?_ ?_
  ·rintro k vs L hk - ⟨rfl,rfl,hI⟩
   have hgp:=getD_map (f:=aPr) hk
   have hfp:smP ps[k] = !(decide (12<(ps[k].vars.length:Int)) || ps[k].evs.any asg12):=rfl
   have hsw:smW ps (k+1)=addW (smW ps k) ps[k].evs.length:=by rw[<- nev_get hk];rfl
   have hin:=smW_in ps k
   have hel:=hl _ (List.getElem_mem hk)
   have hall:smP ps[k]=false->szW ps=1000:=fun h=>by
    rw[hsf,if_neg]
    rw[Bool.not_eq_true]
    exact List.all_eq_false.2 ⟨_,List.getElem_mem hk,by rw[h];decide⟩
   have hI':smP ps[k]=true->∀(j:Nat) (hj:j<ps.length),j<k+1->smP ps[j]=true:=fun h j hj hjk=>by
    by_cases e:j=k
    ·subst e;exact h
    ·exact hI j hj (by omega)
   have hcf:=events_containsFuncB ps[k].evs hel (.v (.func (.func 25) #[] #[])) rfl asg12 fun e _=>(law44_size1 e).val
   clear hI
   generalize szW ps=Z at *
   generalize ps[k]=x at *
   simp only[go_sem]
   refine Sd ?_
   refine AWp.of ?_;simp only[go_sem,hgp]
   refine Sd ?_
   intros
   refine AWp.seq (AWp.regionW ?_)
   simp only[go_sem]
   rw[<- hsw]
   generalize smW ps (k+1)=z' at *
   generalize smW ps k=z at *
   refine Wk ?_
   refine Sd ?_
   refine Gc hcf ?_
   refine Wk ?_
   refine⟨fun h=>?_,fun h1 h2=>?_⟩
   ·have hx:smP x=false:=by
     rw[hfp,Bool.not_eq_false']
     simpa using h
    rw[hall hx]
    refine Wk ?_
    exact Rz
   ·have hx:smP x=true:=by
     rw[hfp,h2]
     simp
     omega
    refine Wk ?_
    exact⟨_,.refl _,rfl,hI' hx⟩
  ·rintro vs L - ⟨rfl,rfl,hI⟩
   have hz:szW ps=smW ps ps.length:=by
    rw[hsf,if_pos]
    rw[List.all_eq_true]
    intro x hx
    obtain⟨j,hj,rfl⟩:=List.getElem_of_mem hx
    exact hI j hj hj
   rw[hz]
   simp only[go_sem]
   refine Wk ?_
   exact Rz
 ·have h10i:(10:Int)<(ps.length:Int):=by omega
  have hz:szW ps=1000:=by unfold szW;rw[if_pos (by omega)]
  rw[hz]
  refine PE 33 [.tmp 2] [1,5] func6 ?_;simp only[go_sem]
  repeat(first|((with_reducible refine AWp.ofC ?_ ?_);exact rfl;simp only[go_sem,h10i])|((with_reducible refine an ?_ ?_);exact Au))
  exact Rz
def psE:List Pr:=[⟨⟨#[97]⟩,[],[⟨1,0,0,0,[]⟩,⟨1,0,0,0,[]⟩]⟩,⟨⟨#[98]⟩,[],[⟨1,0,0,0,[]⟩,⟨1,0,0,0,[]⟩]⟩]
def notE (p:Int):Pd:=.mk 10 0 0 0 ByteArray.empty [.mk 3 0 p 0 ByteArray.empty [],.mk 1 1 0 0 ByteArray.empty []]
def tsE:List Pd:=[notE 0,notE 1]
theorem psE_valid:validF psE=true:=by
 unfold validF faultF
 rw[if_neg (by decide),show procFirst psE=none from rfl,show evFirst psE=none from rfl,show msgF psE=none from rfl,cycF_rank (fun x=>x.2) (by decide)]
 rfl
theorem psE_sm:Sm psE:=⟨by decide,by decide,by decide,by decide⟩
theorem lclE {p:Int}{t:Pd}(h1:formedB t=true)(h2:allB (resB psE) t=true)(h3:typedB t=true)(h4:fitB psE t=true)(h5:0<=p/\p<2)(h7:¬t.kind<=8)(h8:allB (lclB p) t=true):lclF psE p 0 t=0:=by
 have hc:checkF psE t=0:=by
  unfold checkF
  rw[psE_valid,h1,h2,h3,h4];rfl
 have hn:0<=evN psE p:=by
  unfold evN;split <;> omega
 have hl:(psE.length:Int)=2:=rfl
 unfold lclF
 rw[hc,if_neg (by decide),if_neg (by omega),if_neg h7,h8];rfl
theorem conF_E:conF psE tsE=0:=conF_zero ⟨psE_valid,rfl⟩ fun q hq=>by
 have hq:q<2:=hq
 rcases q with _|_|q
 ·exact lclE rfl rfl rfl rfl (by decide) (show ¬(_:Int)<=8 from by simp [tsE,notE,Pd.kind]) rfl
 ·exact lclE rfl rfl rfl rfl (by decide) (show ¬(_:Int)<=8 from by simp [tsE,notE,Pd.kind]) rfl
 ·omega
theorem bad_E:badX psE tsE 0 1=true/\badX psE tsE 1 1=true:=⟨rfl,rfl⟩
theorem ctl_E:ctlB psE [] (badX psE tsE)=false:=by
 cases h:ctlB psE [] (badX psE tsE) with
 | false=>rfl
 | true =>
  refine absurd ⟨fun _=>1,fun p hp=>?_,fun p hp=>?_,fun a ha i hi hd y hy=>?_⟩ (ctlB_true.1 h)
  ·have hp:p<2:=hp
   rcases p with _|_|p
   ·decide
   ·decide
   ·omega
  ·have hp:p<2:=hp
   rcases p with _|_|p
   ·exact bad_E.1
   ·exact bad_E.2
   ·omega
  ·have hi0:i=0:=by omega
   subst hi0
   have ha:a<2:=ha
   rcases a with _|_|a
   ·have:dirX psE [] 0 0=[]:=rfl
    rw[this] at hy;cases hy
   ·have:dirX psE [] 1 0=[]:=rfl
    rw[this] at hy;cases hy
   ·omega
theorem stepE {c:List Int}{R:List (List Int)}(hc:isF psE c=true)(h:chnF psE c R=true):R=[]\/∃q R',(q=0\/q=1)/\rdyF psE c q=true/\R=stpC c q :: R'/\isF psE (stpC c q)=true/\chnF psE (stpC c q) R'=true:=by
 cases R with
 | nil=>exact .inl rfl
 | cons b R =>
  obtain⟨q,q1,q2,rfl,_,q5⟩:=(chn_cons hc).1 h
  have q1:q<2:=q1
  exact .inr ⟨q,R,by omega,q2,rfl,rdy_is q2,q5⟩
theorem runs_E {R:List (List Int)}(hD:DodgeR psE (badX psE tsE) (zeroC psE :: R)):synL (evtG (zeroC psE) R)=[(((0,2):Eid),((1,1):Eid))]\/synL (evtG (zeroC psE) R)=[(((1,2):Eid),((0,1):Eid))]:=by
 obtain⟨R0,hR0,h,hl⟩:=isrun_inv hD.run
 have:R=R0:=by injection hR0
 subst this
 have hav:=hD.av
 have hbad:[(1:Int),1] ∈ zeroC psE :: R->False:=fun hm=>by
  obtain⟨p,hp,hb⟩:=hav _ hm
  have hp:p<2:=hp
  rcases p with _|_|p
  ·have:badX psE tsE 0 1=false:=hb
   rw[bad_E.1] at this;cases this
  ·have:badX psE tsE 1 1=false:=hb
   rw[bad_E.2] at this;cases this
  ·omega
 clear hD hav
 have hz:zeroC psE=[0,0]:=rfl
 have hf:fullC psE=[2,2]:=rfl
 have e0:isF psE [0,0]=true:=by rw[<- hz];exact zeroC_is psE
 rw[hz,hf] at *
 have n1:rdyF psE [2,0] 0=false:=by decide
 have n2:rdyF psE [2,1] 0=false:=by decide
 have n3:rdyF psE [2,2] 0=false:=by decide
 have n4:rdyF psE [2,2] 1=false:=by decide
 have n5:rdyF psE [0,2] 1=false:=by decide
 have n6:rdyF psE [1,2] 1=false:=by decide
 rcases stepE e0 h with rfl|⟨q,R1,hq,hr,rfl,f1,h1⟩
 ·exact absurd (Option.some.inj hl) (by decide)
 rcases hq with rfl|rfl
 ·skip
  rcases stepE f1 h1 with rfl|⟨q,R2,hq,hr,rfl,f2,h2⟩
  ·exact absurd (Option.some.inj hl) (by decide)
  rcases hq with rfl|rfl
  ·skip
   rcases stepE f2 h2 with rfl|⟨q,R3,hq,hr,rfl,f3,h3⟩
   ·exact absurd (Option.some.inj hl) (by decide)
   rcases hq with rfl|rfl
   ·exact absurd (n1.symm.trans hr) (by decide)
   ·skip
    rcases stepE f3 h3 with rfl|⟨q,R4,hq,hr,rfl,f4,h4⟩
    ·exact absurd (Option.some.inj hl) (by decide)
    rcases hq with rfl|rfl
    ·exact absurd (n2.symm.trans hr) (by decide)
    ·skip
     rcases stepE f4 h4 with rfl|⟨q,R5,hq,hr,rfl,_,_⟩
     ·exact .inl rfl
     ·rcases hq with rfl|rfl
      ·exact absurd (n3.symm.trans hr) (by decide)
      ·exact absurd (n4.symm.trans hr) (by decide)
  ·exact(hbad (List.mem_cons_of_mem _ (List.mem_cons_of_mem _ List.mem_cons_self))).elim
 ·skip
  rcases stepE f1 h1 with rfl|⟨q,R2,hq,hr,rfl,f2,h2⟩
  ·exact absurd (Option.some.inj hl) (by decide)
  rcases hq with rfl|rfl
  ·exact(hbad (List.mem_cons_of_mem _ (List.mem_cons_of_mem _ List.mem_cons_self))).elim
  ·skip
   rcases stepE f2 h2 with rfl|⟨q,R3,hq,hr,rfl,f3,h3⟩
   ·exact absurd (Option.some.inj hl) (by decide)
   rcases hq with rfl|rfl
   ·skip
    rcases stepE f3 h3 with rfl|⟨q,R4,hq,hr,rfl,f4,h4⟩
    ·exact absurd (Option.some.inj hl) (by decide)
    rcases hq with rfl|rfl
    ·skip
     rcases stepE f4 h4 with rfl|⟨q,R5,hq,hr,rfl,_,_⟩
     ·exact .inr rfl
     ·rcases hq with rfl|rfl
      ·exact absurd (n3.symm.trans hr) (by decide)
      ·exact absurd (n4.symm.trans hr) (by decide)
    ·exact absurd (n6.symm.trans hr) (by decide)
   ·exact absurd (n5.symm.trans hr) (by decide)
theorem one_E {R:List (List Int)}{l:List Syn}(hD:DodgeR psE (badX psE tsE) (zeroC psE :: R))(hs:l.Sublist (synL (evtG (zeroC psE) R)))(hc:ctlB psE l (badX psE tsE)=true):l=[(((0,2):Eid),((1,1):Eid))]\/l=[(((1,2):Eid),((0,1):Eid))]:=by
 have hne:l ≠ []:=fun e=>by rw[e,ctl_E] at hc;cases hc
 rcases runs_E hD with e|e
 ·rw[e] at hs
  left
  cases hs with
  | cons _ h=>cases h;exact absurd rfl hne
  | cons_cons _ h=>cases h;rfl
 ·rw[e] at hs
  right
  cases hs with
  | cons _ h=>cases h;exact absurd rfl hne
  | cons_cons _ h=>cases h;rfl
noncomputable def aRfs (ps:List Pr)(ts:List Pd):AV:=if conF ps ts=0 then (match tgtO ps (rowsX ps ts) with
 | some a=>.tup [.sl 3 ((chcL ps.length (rowsX ps ts) a).map aStp),ai 0]
 | none=>.tup [.sl 3 [],ai 7]) else .tup [.sl 3 [],ai (conF ps ts)]
theorem aRfs_some {ps:List Pr}{ts:List Pd}(h0:conF ps ts=0){a:Nat->Nat}(h:LeastS ps (rowsX ps ts) a):aRfs ps ts = .tup [.sl 3 ((chcL ps.length (rowsX ps ts) a).map aStp),ai 0]:=by
 obtain⟨a',h1,h2⟩:=tgtO_some h
 unfold aRfs
 rw[if_pos h0,h1];dsimp only;rw[chcL_congr h2]
theorem aRfs_none {ps:List Pr}{ts:List Pd}(h0:conF ps ts=0)(h:¬ ∃t,TgtS ps (rowsX ps ts) t):aRfs ps ts = .tup [.sl 3 [],ai 7]:=by
 unfold aRfs;rw[if_pos h0,tgtO_none h]
theorem control_Refuse (ps:List Pr)(hs:Sm ps)(ts:List Pd)(hz:∀t ∈ ts,szF t<=1000000)(htl:ts.length<=1000000):PC prog 22 [aTr ps,.sl 6 (ts.map aPd)] (aRfs ps ts):=by
 have h1:=control_False ps hs ts hz htl
 by_cases hC:conF ps ts=0
 ·rw[if_pos hC] at h1
  obtain⟨hv,hlen,_⟩:=conF_inv hC
  have hR:=rowsX_ok ps ts
  have hRl:=rowsX_len ps hs hv ts
  have hti:=order_tight ps hs hv (decide (lftX ps (exF ps [])=0)) hR hRl
  have hex0:=control_extended ps hs hv [] (synOk_nil ps) (by simp)
  have hss:aStss ((List.range ps.length).map (rowsX ps ts))=aRowsX ps ts:=by unfold aStss aRowsX;rw[List.map_map];rfl
  rw[hss] at hti
  obtain⟨X,hX⟩:∃X,aOrd ps (exF ps []) (decide (lftX ps (exF ps [])=0)) = .rp 3 X 0 0:=⟨_,rfl⟩
  rw[hX] at hti hex0
  unfold aRowsX at h1 hti
  have hex1:PC prog 55 [aTr ps,anil] (.rp 3 X 0 0):=PC.nilB (k:=4) hex0
  generalize (List.range ps.length).map (fun p=>AV.sl 3 ((rowsX ps ts p).map aStp))=RW at *
  by_cases hT:∃t,TgtS ps (rowsX ps ts) t
  ·obtain⟨a,ha⟩:=least_ex hR hT
   rw[aTgt_some ha] at hti
   rw[aRfs_some hC ha]
   refine PE 29 [.tmp 4,.tmp 5] [2] func22 ?_;simp only[go_sem]
   refine Wk ?_
   refine Sd ?_
   refine Vu h1 ?_
   refine Wk ?_
   refine Sd ?_
   refine Vu hex1 ?_
   refine Sd ?_
   refine Vu hti ?_
   refine Wk ?_
   exact Rz
  ·rw[aTgt_none hT] at hti
   rw[aRfs_none hC hT]
   refine PE 29 [.tmp 4,.tmp 5] [2] func22 ?_;simp only[go_sem]
   refine Wk ?_
   refine Sd ?_
   refine Vu h1 ?_
   refine Wk ?_
   refine Sd ?_
   refine Vu hex1 ?_
   refine Sd ?_
   refine Vu hti ?_
   refine Wk ?_
   refine ret_view [] ?_;simp only[go_sem]
   exact .mkTup (Vws.cons (.nil 3) (Vws.refl _))
 ·rw[if_neg hC] at h1
  unfold aRfs
  rw[if_neg hC]
  generalize conF ps ts=C at *
  refine PE 29 [.tmp 4,.tmp 5] [2] func22 ?_;simp only[go_sem]
  refine Wk ?_
  refine Sd ?_
  refine Vu h1 ?_
  refine W1 hC ?_
  refine ret_view [] ?_;simp only[go_sem]
  exact .mkTup (Vws.cons (.nil 3) (Vws.refl _))
theorem none_E:¬ ∃t,TgtS psE (rowsX psE tsE) t:=fun ⟨t,h1,h2⟩=>by
 have a0:=h1 0 (by decide)
 have a1:=h1 1 (by decide)
 have e0:lenSp (rowsX psE tsE) 0=1:=rfl
 have e1:lenSp (rowsX psE tsE) 1=1:=rfl
 have z0:t 0=0:=by omega
 have z1:t 1=0:=by omega
 have h3:=h2 0 1 (by decide) (by decide) (by decide)
 rw[z0,z1] at h3
 have f0:fSp (rowsX psE tsE) 0 0=(0,1,1):=rfl
 have f1:fSp (rowsX psE tsE) 1 0=(1,1,1):=rfl
 rw[f0,f1] at h3
 revert h3
 decide
theorem law44_part (p:Int):PC prog 19 [ai p] (aPd (notE p)):=by
 have hP:aPd (notE p) = .agg [ai 10,ai 0,ai 0,ai 0,astr ByteArray.empty,.sl 6 [.agg [ai 3,ai 0,ai p,ai 0,astr ByteArray.empty,.sl 6 []],.agg [ai 1,ai 1,ai 0,ai 0,astr ByteArray.empty,.sl 6 []]]]:=by
  unfold notE
  rw[aPd_mk,List.map_cons,List.map_cons,List.map_nil,aPd_mk,aPd_mk];rfl
 rw[hP]
 refine PE 8 [.cell 2 27] [6] func19 ?_;simp only[go_sem]
 refine Wk ?_
 intro b4
 refine Wk ?_
 refine ret_view [] ?_;simp only[go_sem]
 refine .mkAgg ?_
 refine Vws.cons (.refl _) (Vws.cons (.refl _) (Vws.cons (.refl _) (Vws.cons (.refl _) (Vws.cons (.refl _) (Vws.cons (Vw.mkSl ?_) .nil)))))
 refine Vws.cons (.mkAgg ?_) (Vws.cons (.mkAgg ?_) .nil)
 ·exact Vws.cons (.refl _) (Vws.cons (.refl _) (Vws.cons (.refl _) (Vws.cons (.refl _) (Vws.cons (.refl _) (Vws.cons (.nil 6) .nil)))))
 ·exact Vws.cons (.refl _) (Vws.cons (.refl _) (Vws.cons (.refl _) (Vws.cons (.refl _) (Vws.cons (.refl _) (Vws.cons (.nil 6) .nil)))))
set_option maxHeartbeats 1000000 in
theorem law44_awake:PC prog 5 [] (ab true):=by
 have hzS:∀t ∈ tsE,szF t<=1000000:=fun t ht=>by
  simp only[tsE,List.mem_cons,List.not_mem_nil,or_false] at ht
  rcases ht with rfl|rfl <;> decide
 have h1:MCalls prog 20 [aTr psE,.sl 6 (tsE.map aPd)] [] fun r L=>L=[]/\∃a b c d:Int,((a=0/\b=2/\c=1/\d=1)\/(a=1/\b=2/\c=0/\d=1))/\r = .tup [.sl 4 [.agg [ai a,ai b,ai c,ai d]],ai 0] :=
  (control_Control psE psE_sm tsE hzS (by decide)).mono fun r L ⟨e,h⟩=>⟨e,by
   rcases h with ⟨h,_⟩|⟨_,h,_⟩|⟨_,_,R,l,hD,hs,hc,_,rfl⟩
   ·exact absurd conF_E h
   ·exact absurd h none_E
   ·rcases one_E hD hs hc with rfl|rfl
    ·exact⟨0,2,1,1,.inl ⟨rfl,rfl,rfl,rfl⟩,rfl⟩
    ·exact⟨1,2,0,1,.inr ⟨rfl,rfl,rfl,rfl⟩,rfl⟩⟩
 have h2:=control_False psE psE_sm tsE hzS (by decide)
 have h3:=control_Refuse psE psE_sm tsE hzS (by decide)
 rw[if_pos conF_E] at h2
 rw[aRfs_none conF_E none_E] at h3
 have hrw:aRowsX psE tsE = .sl 1 [.sl 3 [.agg [ai 0,ai 1,ai 1]],.sl 3 [.agg [ai 1,ai 1,ai 1]]]:=rfl
 rw[hrw] at h2
 have h4:=spans_equal [(1,1,1)] [(1,1,1)] (by decide)
 rw[decide_eq_true rfl] at h4
 have haS:aSps [(1,1,1)] = .sl 3 [.agg [ai 1,ai 1,ai 1]]:=rfl
 rw[haS] at h4
 have p0:=law44_part 0
 have p1:=law44_part 1
 obtain⟨l0,hk0⟩:∃l,aPd (notE 0) = .agg [ai 10,ai 0,ai 0,ai 0,astr ByteArray.empty,.sl 6 l]:=⟨_,aPd_mk _ _ _ _ _ _⟩
 obtain⟨l1,hk1⟩:∃l,aPd (notE 1) = .agg [ai 10,ai 0,ai 0,ai 0,astr ByteArray.empty,.sl 6 l]:=⟨_,aPd_mk _ _ _ _ _ _⟩
 have hS:tsE.map aPd=[aPd (notE 0),aPd (notE 1)]:=rfl
 rw[hS] at h1 h2 h3
 rw[hk0] at p0 h1 h2 h3
 rw[hk1] at p1 h1 h2 h3
 have hT:aTr psE = .agg [.sl 3 [.agg [astr ⟨#[97]⟩,.sl 2 [],.sl 5 [.agg [ai 1,ai 0,ai 0,ai 0,.sl 2 []],.agg [ai 1,ai 0,ai 0,ai 0,.sl 2 []]]],.agg [astr ⟨#[98]⟩,.sl 2 [],.sl 5 [.agg [ai 1,ai 0,ai 0,ai 0,.sl 2 []],.agg [ai 1,ai 0,ai 0,ai 0,.sl 2 []]]]]]:=rfl
 rw[hT] at h1 h2 h3
 refine PE 97 [.tmp 0] [2,7,8,9,10,17,22,28,90] func5 ?_;simp only[go_sem]
 refine Wk ?_
 intros
 refine Wk ?_
 intros
 refine Wk ?_
 intros
 refine Wk ?_
 refine Sd ?_
 refine Vu p0 ?_
 refine Wk ?_
 refine Sd ?_
 refine Vu p1 ?_
 refine Wk ?_
 intros
 refine Wk ?_
 have ve:Vw [] (.agg [ai 1,ai 0,ai 0,ai 0,anil]) (.agg [ai 1,ai 0,ai 0,ai 0,.sl 2 []]):=.mkAgg (Vws.cons (.refl _) (Vws.cons (.refl _) (Vws.cons (.refl _) (Vws.cons (.refl _) (Vws.cons (.nil 2) .nil)))))
 have vE:Vw [] (.sl 5 [.agg [ai 1,ai 0,ai 0,ai 0,anil],.agg [ai 1,ai 0,ai 0,ai 0,anil]]) (.sl 5 [.agg [ai 1,ai 0,ai 0,ai 0,.sl 2 []],.agg [ai 1,ai 0,ai 0,ai 0,.sl 2 []]]):=.mkSl (Vws.cons ve (Vws.cons ve .nil))
 have vP:=fun s:AV=>show Vw [] (.agg [s,anil,.sl 5 [.agg [ai 1,ai 0,ai 0,ai 0,anil],.agg [ai 1,ai 0,ai 0,ai 0,anil]]]) (.agg [s,.sl 2 [],.sl 5 [.agg [ai 1,ai 0,ai 0,ai 0,.sl 2 []],.agg [ai 1,ai 0,ai 0,ai 0,.sl 2 []]]]) from .mkAgg (Vws.cons (.refl _) (Vws.cons (.nil 2) (Vws.cons vE .nil)))
 have vT:=Vw.mkAgg (L:=[]) (Vws.cons (Vw.mkSl (k:=3) (Vws.cons (vP (astr ⟨#[97]⟩)) (Vws.cons (vP (astr ⟨#[98]⟩)) .nil))) .nil)
 clear ve vE vP
 refine MVal.pass (Lf:=[]) (Li:=[]) (Lr:=[]) (by simp) (Vws.cons vT (Vws.refl _)) h1.val ?_
 rintro r L1 ⟨rfl,a,b,c,d,habcd,rfl⟩
 refine⟨[],.refl _,?_⟩
 simp only[go_sem]
 refine Wk ?_
 intro bA
 refine Wk ?_
 intro bB hAB
 have nA:¬bA=bB:=by omega
 have nB:¬bB=bA:=by omega
 simp only[go_sem,nA,nB]
 refine Sd ?_
 refine Wk ?_
 intro bC
 refine Wk ?_
 intro bD hCD
 have nC:¬bC=bD:=by omega
 have nD:¬bD=bC:=by omega
 simp only[go_sem,nC,nD]
 refine Sd ?_
 refine Wk ?_
 refine MVal.pass (Lf:=[]) (Li:=[]) (Lr:=[]) (by simp) (Vws.cons vT (Vws.refl _)) h2.val ?_
 rintro r L1 ⟨rfl,rfl⟩
 refine⟨[],.refl _,?_⟩
 simp only[go_sem]
 refine Wk ?_
 refine MVal.pass (Lf:=[]) (Li:=[]) (Lr:=[]) (by simp) (Vws.cons vT (Vws.refl _)) h3.val ?_
 rintro r L1 ⟨rfl,rfl⟩
 refine⟨[],.refl _,?_⟩
 simp only[go_sem]
 refine Wk ?_
 have c1:((1:Nat):Int)=1:=rfl
 have c2:((2:Nat):Int)=2:=rfl
 rcases habcd with ⟨rfl,rfl,rfl,rfl⟩|⟨rfl,rfl,rfl,rfl⟩
 ·refine Sq ?_
  refine AWp.mix mixed [0,1,2,3,4,5,6,7,8,9,10,11,12,13,14,15,16,17,18,19,20,21,22,23,24,25,26,27,28,29,30,31,32,33,34,35,36,37,38,39,40,41,42,43,44,45,46] .done (by kernel_rfl) ?_;simp only[go_sem,c1,c2]
  refine Sd ?_
  refine Sd ?_
  refine GCall.use (ab true) (fun _=>⟨At,(h4).val.use ⟨rfl,rfl⟩⟩) ?_;simp only[go_sem,c1,c2]
  refine Sd ?_
  refine Wk ?_
  exact Rz
 ·refine Sq ?_
  refine AWp.mix mixed [0,1,2,3,4,5,6,7,8,9,10,11,12,13,14,15,16,17,18,19,20,21,22,23,24,25,26,27,28,29,30,31,32,33,34,35,36,37,38,39,40,41,42,43,44,45,46] .done (by kernel_rfl) ?_;simp only[go_sem,c1,c2]
  refine Sd ?_
  refine Sd ?_
  refine GCall.use (ab true) (fun _=>⟨At,(h4).val.use ⟨rfl,rfl⟩⟩) ?_;simp only[go_sem,c1,c2]
  refine Sd ?_
  refine Wk ?_
  exact Rz
end Go.AL
end
