/- Texts of this claim's proof: WU15, WY23, WY24, WY25, AlRdw, WY26, WY27, WZ6, WZ1, WZ2. No condition. -/
import Derived.Test.YtbegiibjiidkmaaGreatDoorM14
import Derived.Test.YtbegiibjiidkmaaGreatDoorM13
import Derived.Test.YtbegiibjiidkmaaGreatDoorM17
import Derived.Test.YtbegiibjiidkmaaGreatDoorM19
import Derived.Test.YtbegiibjiidkmaaGreatDoorM16
import Derived.Test.YtbegiibjiidkmaaGreatDoorM12
import Derived.Test.YtbegiibjiidkmaaGreatDoorM10
import Derived.Test.YtbegiibjiidkmaaGreatDoorM11
import Derived.Test.YtbegiibjiidkmaaGreatDoorM9
section
namespace Go.AL
open Go Go.RowKit Proofs.Tryz
set_option maxRecDepth 4000
theorem causality_checkOk (ps:List Pr)(hs:Sm ps)(hv:validF ps=true)(l:List Eid)(hl:l.length<=1000000)(h:∀x ∈ l,eidOk ps x=true):PC prog 43 [aTr ps,.sl 2 (l.map aEid)] (ai 0):=by
 have h1:=trace_Valid ps hs
 rw[hv] at h1
 refine PE 21 [.tmp 4] [2,6] func43 ?_;simp only[go_sem]
 refine Wk ?_
 refine Sd ?_
 refine Vu h1 ?_
 refine Wk ?_
 refine AWp.range' l.length [] [2,10,11] (fun k vs L=>L=[]) (by omega) rfl rfl rfl rfl ?_ ?_
 ·rintro k vs L hk - rfl
  have hg:=getD_map (f:=aEid) hk
  have h2:=causality_exists ps hs l[k]
  rw[h _ (List.getElem_mem hk)] at h2
  obtain⟨x1,x2,hx⟩:∃x1 x2,l[k]=(x1,x2):=⟨_,_,rfl⟩
  rw[hx] at hg h2
  change _=AV.agg [ai x1,ai x2] at hg
  change PC _ _ [_,.agg [ai x1,ai x2]] _ at h2
  simp only[go_sem]
  refine W1 hg ?_
  intro b6
  refine Wk ?_
  refine Sd ?_
  refine Vu h2 ?_
  refine Wk ?_
  exact⟨_,.refl _,rfl⟩
 ·rintro vs L - rfl
  simp only[go_sem]
  refine Wk ?_
  exact Rz
theorem causality_Event (ps:List Pr)(hs:Sm ps)(hv:validF ps=true){p i:Nat}(hp:p<ps.length)(hi:i<nev ps p):PC prog 41 [aTr ps,ai (off ps p+i:Nat)] (.tup [aEid ((p:Int),(i:Int)+1),ai 0]):=by
 have hps:=hs.procs
 have hn:=nev_get hp
 have hel:=hs.evs _ (List.getElem_mem hp)
 have hc0:=causality_checkOk ps hs hv [] (by simp) (fun x hx=>by cases hx)
 have hc1:PC prog 43 [aTr ps,anil] (ai 0):=PC.nilB (k:=2) hc0
 have e1:aEid ((p:Int),(i:Int)+1) = .agg [ai p,ai ((i:Int)+1)]:=rfl
 rw[e1]
 have hos:=off_small hs p (by omega)
 refine PE 42 [.cell 4 53,.tmp 5] [2,8] func41 ?_;simp only[go_sem]
 intro b
 refine Wk ?_
 have hng:¬(((off ps p+i:Nat):Int)<0):=by omega
 refine Sd ?_
 refine Vu hc1 ?_
 refine W1 hng ?_
 refine AWp.range' ps.length [1] [4,19,20] (fun q vs L=>∃rest:Nat,vs=[ai rest]/\L=[(b,.row 53 2 [.agg [ai 0,ai 0]] 1)]/\off ps q+rest=off ps p+i/\q<=p) (by omega) rfl rfl rfl ?_ ?_ ?_
 ·exact⟨off ps p+i,rfl,rfl,by simp [off],Nat.zero_le _⟩
 ·rintro q vs L hq - ⟨rest,rfl,rfl,hqr,hqp⟩
  have hg:=getD_map (f:=aPr) hq
  have hof:=off_succ hq
  have helq:=hs.evs _ (List.getElem_mem hq)
  simp only[go_sem]
  refine W1 hg ?_
  intro b8 g8
  refine W1 hg ?_
  constructor<;>intro h1
  ·have hqe:q=p:=by
    apply Classical.byContradiction
    intro hne
    have h2:off ps (q+1)<=off ps p:=off_mono (by omega) (by omega)
    omega
   subst hqe
   have hri:rest=i:=by omega
   subst hri
   refine Wk ?_
   refine ret_view [true] ?_;simp only[go_sem]
   exact .refl _
  ·have hne:q ≠ p:=fun e=>by subst e;omega
   refine W1 hg ?_
   refine⟨_,.refl _,rest - ps[q].evs.length,?_,rfl,by omega,by omega⟩
   rw[show ((rest - ps[q].evs.length:Nat):Int)=(rest:Int) - ps[q].evs.length by omega]
 ·rintro vs L - ⟨rest,rfl,rfl,hqr,hqp⟩
  omega
def evE (ps:List Pr)(k:Nat):Eid:=match (evIds ps)[k]? with|some x=>x.1|none=>(0,0)
theorem evE_at {ps:List Pr}{p i:Nat}(hp:p<ps.length)(hi:i<ps[p].evs.length):evE ps (off ps p+i)=((p:Int),(i:Int)+1):=by
 unfold evE
 rw[evIds_get hp hi]
theorem num_form {ps:List Pr} : ∀(n:Nat),n<=ps.length->∀ {k:Nat},k<off ps n->∃p i:Nat,∃hp:p<ps.length,i<ps[p].evs.length/\k=off ps p+i
 | 0,_,k,h=>by simp [off] at h
 | n+1,hn,k,h=>by
  rw[off_succ (show n<ps.length by omega)] at h
  by_cases e:k<off ps n
  ·exact num_form n (by omega) e
  ·exact⟨n,k - off ps n,by omega,by omega,by omega⟩
def ordX (ps:List Pr)(S:Nat->List (List Int))(i j:Nat):Bool:=!decide (i=j) && decide ((evE ps i).2<=(stOf S (evE ps j).1.toNat (evE ps j).2.toNat).getD (evE ps i).1.toNat 0)
def relX (ps:List Pr)(S:Nat->List (List Int)):List (List Nat):=(List.range (off ps ps.length)).map fun i=>wordsF (ordX ps S i) (off ps ps.length) (off ps ps.length)
theorem relX_take (ps:List Pr)(S:Nat->List (List Int)){i:Nat}(hi:i<off ps ps.length):(relX ps S).take (i+1)=(relX ps S).take i ++ [wordsF (ordX ps S i) (off ps ps.length) (off ps ps.length)]:=by
 rw[List.take_succ_eq_append_getElem (by simp [relX];exact hi)]
 congr 2
 unfold relX
 rw[List.getElem_map,List.getElem_range]
def fillE (ps:List Pr)(n k:Nat):List AV:=(List.range n).map fun j=>if j<k then aEid (evE ps j) else .agg [ai 0,ai 0]
theorem fillE_len {ps:List Pr}{n k:Nat} : (fillE ps n k).length=n:=by simp [fillE]
theorem fillE_zero {ps:List Pr}{n:Nat} : fillE ps n 0=List.replicate n (.agg [ai 0,ai 0]):=by
 unfold fillE
 rw[List.eq_replicate_iff]
 refine⟨by simp,fun b hb=>?_⟩
 obtain⟨k,_,rfl⟩:=List.mem_map.1 hb
 simp
theorem fillE_set {ps:List Pr}{n k:Nat} : (fillE ps n k).set k (aEid (evE ps k))=fillE ps n (k+1):=by
 apply List.ext_getElem?
 intro i
 rw[List.getElem?_set]
 unfold fillE
 simp only[List.getElem?_map,List.length_map,List.length_range]
 by_cases hi:i<n
 ·rw[List.getElem?_range hi]
  by_cases e:k=i
  ·subst e;simp [hi]
  ·rw[if_neg e]
   simp only[Option.map_some]
   by_cases h:i<k
   ·rw[if_pos h,if_pos (by omega)]
   ·rw[if_neg h,if_neg (by omega)]
 ·rw[List.getElem?_eq_none (by simp;omega)]
  by_cases e:k=i
  ·subst e;simp [hi]
  ·rw[if_neg e];rfl
theorem fillE_full {ps:List Pr}{n:Nat} : fillE ps n n=(List.range n).map fun j=>aEid (evE ps j):=by
 unfold fillE
 exact List.map_congr_left fun k hk=>by rw[if_pos (List.mem_range.1 hk)]
theorem fillE_get {ps:List Pr}{n k:Nat}(h:k<n):(fillE ps n k).getD k .any = .agg [ai 0,ai 0]:=by
 unfold fillE
 rw[map_range_getD h];simp
def filR (f:Nat->Bool)(j:Nat):List AV:=((List.range j).filter f).map fun j:Nat=>ai j
theorem filR_succ {f:Nat->Bool}{j:Nat} : filR f (j+1)=filR f j ++ if f j=true then [ai j] else []:=by
 unfold filR
 rw[List.range_succ,List.filter_append,List.map_append]
 congr 1
 by_cases h:f j=true
 ·rw[if_pos h,List.filter_cons_of_pos h];rfl
 ·rw[if_neg h,List.filter_cons_of_neg h];rfl
theorem filR_len {f:Nat->Bool}{j:Nat} : (filR f j).length<=j:=by
 unfold filR
 rw[List.length_map]
 exact Nat.le_trans (List.length_filter_le _ _) (by rw[List.length_range];exact Nat.le_refl _)
set_option maxHeartbeats 1000000 in
theorem control_OrderOk (ps:List Pr)(hs:Sm ps)(hv:validF ps=true)(l:List Syn)(hll:l.length<=1000000)(hE:syE ps l=0)(hT:TabOk ps (exF ps l)) :
  PC prog 13 [aTr ps,.sl 4 (l.map aSyn)] (.tup [aRelR (off ps ps.length) (relX ps (exF ps l)),ai 0]):=by
 have h1:=control_check ps hs l hll
 have hA:aChk ps l = .tup [aOrd ps (exF ps l) true,ai 0]:=by unfold aChk;rw[if_neg (by rw[hv];decide),if_pos hE]
 rw[hA] at h1
 have h2:=trace_Count ps hs hv
 have hN:=valid_off hv
 have hEv:∀k,k<off ps ps.length->PC prog 41 [aTr ps,ai k] (.tup [aEid (evE ps k),ai 0]):=fun k hk=>by
  obtain⟨p,i,hp,hi,rfl⟩:=num_form ps.length (Nat.le_refl _) hk
  rw[evE_at hp hi]
  exact causality_Event ps hs hv hp (by rw[nev_get hp];exact hi)
 have hO:aOrd ps (exF ps l) true = .rp 3 [.agg [aPrs ps,.sl 1 ((List.range ps.length).map fun p=>.sl 1 ((exF ps l p).map aInts)),ab true]] 0 0:=rfl
 rw[hO] at h1
 have hrl:(relX ps (exF ps l)).length=off ps ps.length:=by simp [relX]
 have hps:=hs.procs
 generalize exF ps l=S at *
 refine PE 109 [.cell 4 45,.tmp 5] [2,13,16,17,88,104] func13 ?_;simp only[go_sem]
 intro b4
 refine Wk ?_
 refine Sd ?_
 refine Vu h1 ?_
 refine Wk ?_
 refine Sd ?_
 refine Vu h2 ?_
 refine Wk ?_
 intro bs gs
 refine Wk ?_
 have hz0:=fillE_zero (ps:=ps) (n:=off ps ps.length)
 rw[show List.replicate (off ps ps.length) (AV.agg [AV.v (Value.int IntKind.i64 0),AV.v (Value.int IntKind.i64 0)])=fillE ps (off ps ps.length) 0 from hz0.symm]
 clear hz0
 refine AWp.range' (off ps ps.length) [] [2,4,6,8,9,34] (fun k vs L=>vs=[]/\L=[(bs,.row 53 2 (fillE ps (off ps ps.length) k) (off ps ps.length)),(b4,.row 45 1 [.agg [anil]] 1)]) (by omega) rfl rfl rfl ⟨rfl,rfl⟩ ?_ ?_
 ·rintro k vs L hk - ⟨rfl,rfl⟩
  have h3:=hEv k hk
  have hset:=fillE_set (ps:=ps) (n:=off ps ps.length) (k:=k)
  have hlen:=fillE_len (ps:=ps) (n:=off ps ps.length) (k:=k)
  have hgE:=fillE_get (ps:=ps) hk
  rw[<- hset]
  generalize fillE ps (off ps ps.length) k=ys at *
  obtain⟨x1,x2,hx⟩:∃x1 x2,evE ps k=(x1,x2):=⟨_,_,rfl⟩
  rw[hx] at h3 ⊢
  change PC _ _ _ (.tup [.agg [ai x1,ai x2],ai 0]) at h3
  simp only[go_sem]
  refine Wk ?_
  refine Sd ?_
  refine(h3).val.use ?_;simp only[go_sem,hlen,hgE]
  refine W2 hlen hgE ?_
  exact⟨_,.refl _,rfl⟩
 ·rintro vs L - ⟨rfl,rfl⟩
  rw[fillE_full]
  have hgE:∀j,j<off ps ps.length->((List.range (off ps ps.length)).map fun j=>aEid (evE ps j)).getD j .any=aEid (evE ps j):=fun j hj=>map_range_getD hj _
  have hll2:((List.range (off ps ps.length)).map fun j=>aEid (evE ps j)).length=off ps ps.length:=by simp
  generalize (List.range (off ps ps.length)).map (fun j=>aEid (evE ps j))=ES at *
  simp only[go_sem]
  refine AWp.viewP (Lf:=[(bs,_)]) (Lk:=[(b4,_)]) (L':=[(b4,_)]) (List.Perm.refl _) (LVw.refl _) [(9,.sl 2 ES)] (fun q hq=>?_) ?_
  ·obtain rfl:=List.mem_singleton.1 hq
   simp only[go_sem]
   exact Vw.ofLs (t:=53) (cap:=off ps ps.length) (if_pos rfl) hll2.symm
  refine Wk ?_
  intro b11 g11
  have n1:¬b11=b4:=by omega
  have n2:¬b4=b11:=by omega
  refine W1 hll2 ?_
  refine AWp.range' (off ps ps.length) [] [4,6,8,9,11,48,49] (fun i vs L=>vs=[]/\relS b11 b4 (off ps ps.length) ((relX ps S).take i) L) (by omega) rfl rfl rfl ⟨rfl,.inl ⟨rfl,rfl⟩⟩ ?_ ?_
  ·rintro i vs L hi - ⟨rfl,hL⟩
   obtain⟨p,a,hp,ha,hia⟩:=num_form ps.length (Nat.le_refl _) hi
   have hei:evE ps i=((p:Int),(a:Int)+1):=by rw[hia];exact evE_at hp ha
   have hgi:ES.getD i .any = .agg [ai p,ai ((a:Int)+1)]:=by rw[hgE i hi,hei];rfl
   simp only[go_sem]
   refine W1 hgi ?_
   intro b13 g13
   refine W1 hll2 ?_
   refine AWp.range' (off ps ps.length) [14] [4,6,8,9,11,12,13,48,49,50,55,56] (fun j vs L'=>∃v Lv,vs=[v]/\L'=Lv ++ L/\AppSt 3 1 (filR (ordX ps S i) j) v Lv) (by omega) rfl rfl rfl ⟨anil,[],rfl,rfl,.nil⟩ ?_ ?_
   ·rintro j vs L' hj - ⟨v,Lv,rfl,rfl,hA⟩
    obtain⟨q,b,hq,hb,hjb⟩:=num_form ps.length (Nat.le_refl _) hj
    have hej:evE ps j=((q:Int),(b:Int)+1):=by rw[hjb];exact evE_at hq hb
    have hgj:ES.getD j .any = .agg [ai q,ai ((b:Int)+1)]:=by rw[hgE j hj,hej];rfl
    have x2:((b:Int)+1).toNat=b+1:=by omega
    have hSq:=hT.len q hq
    rw[nev_get hq] at hSq
    have hbk:b+1<(S q).length:=by omega
    have hrw:=hT.row q (b+1) hq hbk
    have hgq:((List.range ps.length).map fun p=>AV.sl 1 ((S p).map aInts)).getD q .any = .sl 1 ((S q).map aInts):=map_range_getD hq _
    have hgb:((S q).map aInts).getD (b+1) .any = .sl 1 ((stOf S q (b+1)).map ai):=by
     rw[getD_map hbk];unfold stOf;rw[List.getD_eq_getElem?_getD,List.getElem?_eq_getElem hbk];rfl
    have hpr:p<(stOf S q (b+1)).length:=by omega
    have hgp:((stOf S q (b+1)).map ai).getD p .any=ai ((stOf S q (b+1)).getD p 0):=by
     rw[getD_map hpr,List.getD_eq_getElem?_getD,List.getElem?_eq_getElem hpr];rfl
    have hf:ordX ps S i j=(!decide (i=j) && decide ((a:Int)+1<=(stOf S q (b+1)).getD p 0)):=by
     unfold ordX
     rw[hei,hej]
     show (!decide (i=j) && decide ((a:Int)+1<=(stOf S ((q:Int)).toNat ((b:Int)+1).toNat).getD ((p:Int)).toNat 0))=_
     rw[x2,Int.toNat_natCast,Int.toNat_natCast]
    have hij:decide ((i:Int)=j)=decide (i=j):=by rw[decide_eq_decide];omega
    have hfr:=filR_succ (f:=ordX ps S i) (j:=j)
    have hfo:=hA.fo
    have hyl:(filR (ordX ps S i) j).length<=1000000:=by have:=filR_len (f:=ordX ps S i) (j:=j);omega
    rw[hfr]
    generalize filR (ordX ps S i) j=ys at *
    generalize stOf S q (b+1)=row at *
    simp only[go_sem]
    refine W1 hgj ?_
    intro b16 g16
    refine Wk ?_
    refine Sq ?_
    refine AWp.read mixed [0,1,2,3,4,5,6,7,8,9,10,11,12,13,14,15,16,17,18,19,20,21,22,23] (by kernel_rfl) ?_;simp only[go_sem,hgq,hgb,hgp,x2,hij]
    refine Sd ?_
    rw[<- hf]
    cases hc:ordX ps S i j with
    | true =>
     rw[if_pos rfl]
     rcases hA.inv with ⟨e1,rfl,rfl⟩|⟨bq,cq,rfl,rfl⟩
     ·refine Wk ?_
      intro b' cap' g8
      intros
      refine Wk ?_
      refine⟨_,.refl _,_,_,rfl,?_,by rw[e1];exact .row b' _ cap'⟩
      rfl
     ·refine Wk ?_
      refine Sd ?_
      intro b' cap' g8
      intros
      refine Wk ?_
      refine⟨_,.refl _,_,_,rfl,?_,AppSt.snoc b' cap' _ rfl⟩
      rfl
    | false =>
     rw[if_neg (by decide),List.append_nil]
     refine Wk ?_
     exact⟨_,.refl _,_,_,rfl,rfl,hA⟩
   ·rintro vs L' - ⟨v,Lv,rfl,rfl,hA⟩
    have hbo:PC prog 42 [ai (off ps ps.length:Nat),.sl 1 (filR (ordX ps S i) (off ps ps.length))] (.tup [aBits (off ps ps.length) (wordsF (ordX ps S i) (off ps ps.length) (off ps ps.length)),ai 0]):=bits_Of (off ps ps.length) hN (ordX ps S i)
    have hst:=relX_take ps S hi
    have hb:aBits (off ps ps.length) (wordsF (ordX ps S i) (off ps ps.length) (off ps ps.length)) = .agg [ai (off ps ps.length:Nat),.sl 1 ((wordsF (ordX ps S i) (off ps ps.length) (off ps ps.length)).map fun w:Nat=>au64 (w:Int))]:=rfl
    rw[hb] at hbo
    simp only[go_sem]
    refine AWp.viewP (Lf:=Lv) (Lk:=L) (L':=L) (List.Perm.refl _) (LVw.refl _) [(14,.sl 1 (filR (ordX ps S i) (off ps ps.length)))] (fun q hq=>?_) ?_
    ·obtain rfl:=List.mem_singleton.1 hq
     have:=hA.vw []
     rw[List.append_nil] at this
     simp only[go_sem]
     exact this
    generalize wordsF (ordX ps S i) (off ps ps.length) (off ps ps.length)=ws at *
    generalize filR (ordX ps S i) (off ps ps.length)=ys at *
    have htl:((relX ps S).take i).length=i:=by rw[List.length_take];omega
    generalize (relX ps S).take i=rs at *
    refine Wk ?_
    refine Sd ?_
    refine Vu hbo ?_
    refine Wk ?_
    intro b17 g17
    rcases hL with ⟨rfl,rfl⟩|⟨c,cap,⟨d1,d2⟩,rfl⟩
    ·refine W3 n1 n2 hb ?_
     intro c1 k1 h41 h21 hk1
     have d1:¬c1=b11:=by omega
     have d2:¬c1=b4:=by omega
     have d7:¬b11=c1:=by omega
     have d9:¬b4=c1:=by omega
     simp only[go_sem,d1,d2,d7,d9]
     refine W6 n1 n2 d1 d2 d7 d9 ?_
     rw[hst]
     exact⟨_,.refl _,.inr ⟨c1,k1,⟨d1,d2⟩,rfl⟩⟩
    ·have d3:¬b11=c:=fun e=>d1 e.symm
     have d4:¬b4=c:=fun e=>d2 e.symm
     have hrs:(rs.map (aBits (off ps ps.length))).take rs.length=rs.map (aBits (off ps ps.length)):=List.take_of_length_le (by rw[List.length_map];exact Nat.le_refl _)
     repeat(first|((with_reducible refine AWp.ofC ?_ ?_);exact rfl;simp only[go_sem,n1,n2,d1,d2,d3,d4,hb,hrs])|((with_reducible refine an ?_ ?_);exact Au))
     intro c1 k1 h41 h21 hk1
     have e1:¬c1=b11:=fun e=>h41 e.symm
     have e2:¬c1=b4:=fun e=>h21 e.symm
     simp only[go_sem,e1,e2,h41,h21]
     refine W6 n1 n2 e1 e2 h41 h21 ?_
     refine⟨_,.refl _,?_⟩
     rw[hst]
     exact .inr ⟨c1,k1,⟨e1,e2⟩,by rw[List.length_append,List.map_append];rfl⟩
  ·rintro vs L - ⟨rfl,hL⟩
   rw[List.take_of_length_le (by omega)] at hL
   rcases hL with ⟨e0,rfl⟩|⟨c,cap,⟨d1,d2⟩,rfl⟩
   ·simp only[go_sem]
    refine W2 n1 n2 ?_
    refine ret_view [true,true] ?_;simp only[go_sem]
    simp only[go_sem,n1,n2]
    unfold aRelR
    rw[e0]
    exact .mkTup (Vws.cons (.mkAgg (Vws.cons (.nil 2) .nil)) (Vws.refl _))
   ·simp only[go_sem]
    have d3:¬b11=c:=fun e=>d1 e.symm
    have d4:¬b4=c:=fun e=>d2 e.symm
    refine W6 n1 n2 d1 d2 d3 d4 ?_
    refine ret_view [true,true,true] ?_;simp only[go_sem]
    simp only[go_sem,n1,n2,d1,d2,d3,d4]
    exact .mkTup (Vws.cons (.mkAgg (Vws.cons (Vw.ofLs (t:=110) (cap:=cap) (if_pos rfl) (by rw[List.length_map])) .nil)) (Vws.refl _))
section
variable {tO tI:TypeId} {k n:Nat} {Y:Nat->List AV} {v:AV} {L:AHeap}
end
end Go.AL
end
section
namespace Go.AL
open Go Go.RowKit Proofs.Tryz
section
variable {C:Cfg} {ops:Array Oper} {L:AHeap}
end
section
variable {C:Cfg} {ops:Array Oper} {L:AHeap}
end
def rdwK (C:Cfg)(all:List Oper)(z:Nat)(K:ARes)(L:AHeap)(ρ:Env):Prop:=match all[z]? with|some o=>aopX C o ρ L K|none=>False
attribute [go_sem] rdwK
end Go.AL
end
section
namespace Go.AL
open Go Go.RowKit Proofs.Tryz
set_option maxRecDepth 4000
def dirB (ps:List Pr)(l:List Syn)(i j:Nat):Bool:=decide (evE ps i ∈ dirK ps l j)
def tabX (ps:List Pr)(l:List Syn):Nat->Nat->Bool:=warF (off ps ps.length) (dirB ps l)
theorem evE_inj {ps:List Pr}{i j:Nat}(hi:i<off ps ps.length)(hj:j<off ps ps.length)(h:evE ps i=evE ps j):i=j:=by
 obtain⟨p,a,hp,ha,rfl⟩:=num_form ps.length (Nat.le_refl _) hi
 obtain⟨q,b,hq,hb,rfl⟩:=num_form ps.length (Nat.le_refl _) hj
 rw[evE_at hp ha,evE_at hq hb,Prod.mk.injEq] at h
 have:p=q:=by omega
 subst this
 omega
theorem off_lt {ps:List Pr}{p i:Nat}(hp:p<ps.length)(hi:i<ps[p].evs.length):off ps p+i<off ps ps.length:=by
 have:=off_le hp;omega
theorem evE_ev {ps:List Pr}{k:Nat}(hk:k<off ps ps.length):EvX ps (evE ps k):=by
 obtain⟨p,i,hp,hi,rfl⟩:=num_form ps.length (Nat.le_refl _) hk
 rw[evE_at hp hi]
 have hn:=nev_get hp
 refine⟨by show (0:Int)<=p;omega,by show (p:Int)<_;omega,by show (1:Int)<=(i:Int)+1;omega,?_⟩
 show (i:Int)+1<=nev ps ((p:Int)).toNat
 rw[Int.toNat_natCast,hn];omega
theorem ev_num {ps:List Pr}{x:Eid}(h:EvX ps x):∃k,k<off ps ps.length/\evE ps k=x:=by
 obtain⟨p,i,hp,hi,rfl⟩:=evx_form h
 rw[nev_get hp] at hi
 exact⟨off ps p+i,off_lt hp hi,evE_at hp hi⟩
theorem dirB_iff {ps:List Pr}(hv:validF ps=true){l:List Syn}(hl:SynOk ps l){i j:Nat} : dirB ps l i j=true↔i<off ps ps.length/\j<off ps ps.length/\DirR ps l (evE ps i) (evE ps j):=by
 unfold dirB
 rw[decide_eq_true_eq]
 have hdk:∀ {j},j<off ps ps.length->dirK ps l j=dirX ps l (evE ps j).1.toNat ((evE ps j).2.toNat - 1):=fun {j} hj=>by
  obtain⟨p,a,hp,ha,rfl⟩:=num_form ps.length (Nat.le_refl _) hj
  rw[dirK_at hp ha,evE_at hp ha]
  show _=dirX ps l ((p:Int)).toNat (((a:Int)+1).toNat - 1)
  rw[Int.toNat_natCast,show ((a:Int)+1).toNat - 1=a by omega]
 constructor
 ·intro h
  have hj:j<off ps ps.length:=by
   apply Classical.byContradiction
   intro hj
   have:dirK ps l j=[]:=by
    unfold dirK
    rw[List.getElem?_eq_none (by rw[evIds_length];omega)]
   rw[this] at h;cases h
  have hd:DirR ps l (evE ps i) (evE ps j):=⟨evE_ev hj,by rw[<- hdk hj];exact h⟩
  refine⟨?_,hj,hd⟩
  apply Classical.byContradiction
  intro hi
  have h0:evE ps i=(0,0):=by
   unfold evE
   rw[List.getElem?_eq_none (by rw[evIds_length];omega)]
  obtain⟨p,a,hp,ha,hje⟩:=evx_form (evE_ev hj)
  rw[hje] at hd
  obtain⟨_,_,hx⟩:=dir_iff hd
  have:=(dirX_ev hv hl hp ha _ hx).2.2.1
  rw[h0] at this
  have:(1:Int)<=0:=this
  omega
 ·rintro⟨hi,hj,h⟩
  rw[hdk hj];exact h.2
theorem tab_iff {ps:List Pr}(hv:validF ps=true){l:List Syn}(hl:SynOk ps l){i j:Nat}(hi:i<off ps ps.length)(hj:j<off ps ps.length):tabX ps l i j=true↔RchX ps l (evE ps i) (evE ps j):=by
 have hD:=@dirB_iff ps hv l hl
 unfold tabX
 rw[war_trans fun a b h=>⟨(hD.1 h).1,(hD.1 h).2.1⟩]
 constructor
 ·intro t
  induction t with
  | single h=>exact .single (hD.1 h).2.2
  | tail t h ih=>exact .tail (ih (hD.1 h).1) (hD.1 h).2.2
 ·intro t
  have key:∀ {x y:Eid},RchX ps l x y->∀j,j<off ps ps.length->y=evE ps j->∀i,i<off ps ps.length->x=evE ps i->Relation.TransGen (fun a b=>dirB ps l a b=true) i j:=fun {x y} t=>by
   induction t with
   | single h =>
    rintro j hj rfl i hi rfl
    exact .single (hD.2 ⟨hi,hj,h⟩)
   | @tail m y t h ih =>
    rintro j hj rfl i hi rfl
    obtain⟨p,a,hp,ha,hje⟩:=evx_form (evE_ev hj)
    have h':=h
    rw[hje] at h'
    obtain⟨_,_,hx⟩:=dir_iff h'
    have hm:EvX ps m:=dirX_ev hv hl hp ha _ hx
    obtain⟨k,hk,hke⟩:=ev_num hm
    refine .tail (ih k hk hke.symm i hi rfl) (hD.2 ⟨hk,hj,by rw[hke];exact h⟩)
  exact key t j hj rfl i hi rfl
theorem tab_ord {ps:List Pr}(hv:validF ps=true){l:List Syn}(hl:SynOk ps l)(hW:WhlX ps (exF ps l)){i j:Nat}(hi:i<off ps ps.length)(hj:j<off ps ps.length):tabX ps l i j=ordX ps (exF ps l) i j:=by
 have hG:=exF_gen ps l
 rw[Bool.eq_iff_iff,tab_iff hv hl hi hj]
 unfold ordX
 rw[Bool.and_eq_true,Bool.not_eq_true',decide_eq_false_iff_not,decide_eq_true_eq]
 obtain⟨q,b,hq,hb,rfl⟩:=num_form ps.length (Nat.le_refl _) hj
 have hnq:=nev_get hq
 have hWq:=hW q hq
 have e1:(evE ps (off ps q+b)).1.toNat=q:=by rw[evE_at hq hb];exact Int.toNat_natCast _
 have e2:(evE ps (off ps q+b)).2.toNat=b+1:=by rw[evE_at hq hb];show ((b:Int)+1).toNat=_;omega
 rw[e1,e2]
 have he:=evE_at hq hb
 constructor
 ·intro h
  refine⟨fun e=>?_,?_⟩
  ·subst e;exact whl_acyc hv hl hG hW h
  ·rw[he] at h
   exact rch_entry hv hl hG hq (k:=b+1) (by omega) (by simpa using h)
 ·rintro⟨hne,h⟩
  rw[he]
  rcases entry_rch hv hl hG (evE_ev hi) hq (by omega) (by omega) h with h1|h1
  ·exact absurd (evE_inj hi hj (h1.trans he.symm)) hne
  ·exact h1
theorem rch_mono {ps:List Pr}{l l':List Syn}(h:∀s ∈ l,s ∈ l'){x y:Eid}(hr:RchX ps l x y):RchX ps l' x y:=by
 have hd:∀a b,DirR ps l a b->DirR ps l' a b:=fun a b ⟨h1,h2⟩=>by
  refine⟨h1,?_⟩
  unfold dirX at h2 ⊢
  rcases List.mem_append.1 h2 with h2|h2
  ·exact List.mem_append_left _ h2
  ·obtain⟨s,h3,rfl⟩:=List.mem_map.1 h2
   obtain⟨h4,h5⟩:=List.mem_filter.1 h3
   exact List.mem_append_right _ (List.mem_map.2 ⟨s,List.mem_filter.2 ⟨h s h4,h5⟩,rfl⟩)
 induction hr with
 | single hx=>exact .single (hd _ _ hx)
 | tail _ hx ih=>exact .tail ih (hd _ _ hx)
theorem ord_irr {ps:List Pr}{l:List Syn}(i:Nat):ordX ps (exF ps l) i i=false:=by unfold ordX;simp
section
variable {ps:List Pr} (hv:validF ps=true) {l:List Syn} (hl:SynOk ps l) (hW:WhlX ps (exF ps l))
include hv hl hW
theorem ord_rch {i j:Nat}(hi:i<off ps ps.length)(hj:j<off ps ps.length):ordX ps (exF ps l) i j=true↔RchX ps l (evE ps i) (evE ps j):=by
 rw[<- tab_ord hv hl hW hi hj,tab_iff hv hl hi hj]
theorem ord_trans {i j k:Nat}(hi:i<off ps ps.length)(hj:j<off ps ps.length)(hk:k<off ps ps.length)(h1:ordX ps (exF ps l) i j=true)(h2:ordX ps (exF ps l) j k=true):ordX ps (exF ps l) i k=true :=
 (ord_rch hv hl hW hi hk).2 (((ord_rch hv hl hW hi hj).1 h1).trans ((ord_rch hv hl hW hj hk).1 h2))
theorem ord_mono (hW0:WhlX ps (exF ps [])){i j:Nat}(hi:i<off ps ps.length)(hj:j<off ps ps.length)(h:ordX ps (exF ps []) i j=true):ordX ps (exF ps l) i j=true :=
 (ord_rch hv hl hW hi hj).2 (rch_mono (fun s h=>absurd h List.not_mem_nil) ((ord_rch hv (synOk_nil ps) hW0 hi hj).1 h))
theorem ord_sync {s:Syn}(hs:s ∈ l){i j:Nat}(hi:i<off ps ps.length)(hj:j<off ps ps.length)(ei:evE ps i=s.1)(ej:evE ps j=s.2):ordX ps (exF ps l) i j=true:=by
 refine(ord_rch hv hl hW hi hj).2 (.single ?_)
 have hev:=evE_ev (ps:=ps) hj
 obtain⟨p,b,hp,hb,e⟩:=evx_form hev
 rw[e]
 refine dir_mk hp hb ?_
 unfold dirX
 refine List.mem_append_right _ (List.mem_map.2 ⟨s,List.mem_filter.2 ⟨hs,decide_eq_true ?_⟩,ei.symm⟩)
 rw[<- ej,e]
end
def hbX (ps:List Pr)(i j:Nat):Bool:=!decide (i=j) && decide ((evE ps i).2<=cAt (ptF ps (evE ps j).1.toNat ((evE ps j).2.toNat - 1)) (evE ps i).1)
theorem hb_ord {ps:List Pr}(hv:validF ps=true){i j:Nat}(hj:j<off ps ps.length):hbX ps i j=ordX ps (exF ps []) i j:=by
 obtain⟨q,b,hq,hb,e⟩:=evx_form (evE_ev (ps:=ps) hj)
 have h1:=ex_nil_pt hv (nil_whl hv) hq hb
 have e1:((b:Int)+1).toNat - 1=b:=by omega
 have e2:((b:Int)+1).toNat=b+1:=by omega
 unfold hbX ordX
 rw[e]
 simp only[Int.toNat_natCast,e1,e2,h1]
 rfl
theorem bit_word {f:Nat->Bool}{w b:Nat}(hb:b<64):∀ {j:Nat},(wordOf f w j).testBit b=(decide (64 * w+b<j) && f (64 * w+b))
 | 0=>by
  rw[decide_eq_false (by omega),Bool.false_and]
  show (0:Nat).testBit b=false
  exact Nat.zero_testBit b
 | j+1=>by
  have ih:=bit_word (f:=f) (w:=w) hb (j:=j)
  unfold wordOf
  by_cases h:f j=true/\j / 64=w
  ·rw[if_pos h]
   have hlt:=word_lt (f:=f) (j:=j)
   rw[h.2] at hlt
   have hor:=Nat.two_pow_add_eq_or_of_lt hlt 1
   rw[Nat.mul_one,Nat.add_comm] at hor
   rw[hor,Nat.testBit_or,ih,Nat.testBit_two_pow]
   by_cases e:j % 64=b
   ·have hj:64 * w+b=j:=by omega
    rw[hj,decide_eq_true e,Bool.true_or,decide_eq_true (by omega),h.1];rfl
   ·rw[decide_eq_false e,Bool.false_or]
    congr 1
    rw[decide_eq_decide];omega
  ·rw[if_neg h,ih]
   by_cases e:64 * w+b=j
   ·rw[decide_eq_false (show ¬64 * w+b<j by omega),Bool.false_and,decide_eq_true (by omega),Bool.true_and,e]
    cases hf:f j with
    | false=>rfl
    | true=>exact absurd ⟨hf,by omega⟩ h
   ·congr 1
    rw[decide_eq_decide];omega
theorem word_ext {x y:Nat}(hx:x<2 ^ 64)(hy:y<2 ^ 64)(h:∀b,b<64->x.testBit b=y.testBit b):x=y:=by
 refine Nat.eq_of_testBit_eq fun b=>?_
 by_cases hb:b<64
 ·exact h b hb
 ·have hp:2 ^ 64<=2 ^ b:=Nat.pow_le_pow_right (by decide) (by omega)
  rw[Nat.testBit_lt_two_pow (by omega),Nat.testBit_lt_two_pow (by omega)]
theorem bv_nat {x:Nat}(h:x<2 ^ 64):(BitVec.ofInt 64 (x:Int)).toNat=x:=by
 rw[BitVec.ofInt_natCast,BitVec.toNat_ofNat,Nat.mod_eq_of_lt h]
theorem and_nat {x y:Nat}(hx:x<2 ^ 64)(hy:y<2 ^ 64):andK .u64 (x:Nat) (y:Nat)=((x &&& y:Nat):Int):=by
 have hl:x &&& y<2 ^ 64:=Nat.lt_of_le_of_lt Nat.and_le_left hx
 have e:(BitVec.ofInt IntKind.u64.bits (x:Nat) &&& BitVec.ofInt IntKind.u64.bits (y:Nat)).toNat=x &&& y:=by
  show (BitVec.ofInt 64 (x:Nat) &&& BitVec.ofInt 64 (y:Nat)).toNat=_
  rw[BitVec.toNat_and,bv_nat hx,bv_nat hy]
 unfold andK
 rw[e]
 exact wrap_u64n hl
def mnsN (x y:Nat):Nat:=(BitVec.ofNat 64 x &&& ~~~ BitVec.ofNat 64 y).toNat
theorem mns_lt (x y:Nat):mnsN x y<2 ^ 64:=BitVec.isLt _
theorem mns_bit {x y b:Nat}(hb:b<64):(mnsN x y).testBit b=(x.testBit b && !y.testBit b):=by
 unfold mnsN
 rw[BitVec.testBit_toNat,BitVec.getLsbD_and,BitVec.getLsbD_not,BitVec.getLsbD_ofNat,BitVec.getLsbD_ofNat]
 simp [hb]
theorem mns_nat {x y:Nat} : andNotK .u64 (x:Nat) (y:Nat)=((mnsN x y:Nat):Int):=by
 unfold andNotK
 have e:(BitVec.ofInt IntKind.u64.bits (x:Nat) &&& ~~~BitVec.ofInt IntKind.u64.bits (y:Nat)).toNat=mnsN x y:=by
  show (BitVec.ofInt 64 (x:Nat) &&& ~~~BitVec.ofInt 64 (y:Nat)).toNat=_
  rw[BitVec.ofInt_natCast,BitVec.ofInt_natCast];rfl
 rw[e]
 exact wrap_u64n (mns_lt x y)
theorem word_mns {f g:Nat->Bool}{w n:Nat} : mnsN (wordOf f w n) (wordOf g w n)=wordOf (fun i=>f i && !g i) w n:=by
 refine word_ext (mns_lt _ _) word_big fun b hb=>?_
 rw[mns_bit hb,bit_word hb,bit_word hb,bit_word hb]
 cases decide (64 * w+b<n) <;> simp
theorem shr_nat {x b:Nat}(hb:b<=64):shrK .u64 (x:Nat) (b:Nat)=((x / 2 ^ b:Nat):Int):=by
 unfold shrK
 have:min (b:Int).toNat (IntKind.u64.bits)=b:=by
  show min (b:Int).toNat 64=b
  omega
 rw[this]
 have e:((2:Int) ^ b)=((2 ^ b:Nat):Int):=by rw[Int.natCast_pow];rfl
 rw[e,Int.fdiv_eq_ediv_of_nonneg _ (Int.natCast_nonneg _)]
 rfl
theorem has_bit {x b:Nat}(hx:x<2 ^ 64)(hb:b<64):decide (andK .u64 (shrK .u64 (x:Nat) (b:Nat)) 1=1)=x.testBit b:=by
 have hl:x / 2 ^ b<2 ^ 64:=Nat.lt_of_le_of_lt (Nat.div_le_self _ _) hx
 rw[shr_nat (by omega),show (1:Int)=((1:Nat):Int) from rfl,and_nat hl (by decide),Nat.testBit_eq_decide_div_mod_eq,Nat.and_one_is_mod,decide_eq_decide]
 omega
def cntB (f:Nat->Bool)(n:Nat):Nat:=((List.range n).filter f).length
theorem cntB_succ (f:Nat->Bool)(n:Nat):cntB f (n+1)=cntB f n+if f n=true then 1 else 0:=by
 unfold cntB
 rw[List.range_succ,List.filter_append,List.length_append]
 by_cases h:f n=true
 ·rw[if_pos h,List.filter_cons_of_pos h];rfl
 ·rw[if_neg h,List.filter_cons_of_neg h];rfl
theorem cntB_add (f:Nat->Bool)(m:Nat):∀n,cntB f (m+n)=cntB f m+cntB (fun i=>f (m+i)) n
 | 0=>by simp [cntB]
 | n+1=>by rw[<- Nat.add_assoc,cntB_succ,cntB_add f m n,cntB_succ];omega
theorem cntB_congr {f g:Nat->Bool} : ∀ {n:Nat},(∀i,i<n->f i=g i)->cntB f n=cntB g n
 | 0,_=>rfl
 | n+1,h=>by rw[cntB_succ,cntB_succ,cntB_congr fun i hi=>h i (by omega),h n (by omega)]
theorem cntB_le (f:Nat->Bool)(n:Nat):cntB f n<=n:=by
 unfold cntB
 exact Nat.le_trans (List.length_filter_le _ _) (by simp)
theorem cntB_zero {f:Nat->Bool} : ∀ {n:Nat},cntB f n=0↔∀i,i<n->f i=false
 | 0=>by simp [cntB]
 | n+1=>by
  rw[cntB_succ]
  constructor
  ·intro h i hi
   have h1:cntB f n=0:=by omega
   by_cases e:i=n
   ·subst e
    cases hf:f i with
    | false=>rfl
    | true=>rw[if_pos hf] at h;omega
   ·exact cntB_zero.1 h1 i (by omega)
  ·intro h
   rw[cntB_zero.2 fun i hi=>h i (by omega),if_neg (by rw[h n (by omega)];decide)]
def popN (x:Nat):Nat:=cntB (fun b=>x.testBit b) 64
def bytN (x:Nat):Nat:=cntB (fun b=>x.testBit b) 8
theorem pop_word {f:Nat->Bool}{w n:Nat} : popN (wordOf f w n)=cntB (fun b=>decide (64 * w+b<n) && f (64 * w+b)) 64:=cntB_congr fun b hb=>bit_word hb
theorem pop_words (f:Nat->Bool)(n:Nat):∀k,((List.range k).map fun w=>popN (wordOf f w n)).sum=cntB (fun i=>decide (i<n) && f i) (64 * k)
 | 0=>rfl
 | k+1=>by
  rw[List.range_succ,List.map_append,List.sum_append,pop_words f n k,Nat.mul_succ,cntB_add,List.map_singleton,List.sum_singleton,pop_word]
theorem pop_all (f:Nat->Bool)(n:Nat):cntB (fun i=>decide (i<n) && f i) (64 * nW n)=cntB f n:=by
 obtain⟨d,hd⟩:∃d,64 * nW n=n+d:=⟨64 * nW n - n,by unfold nW;omega⟩
 have h2:cntB (fun i=>decide (n+i<n) && f (n+i)) d=0:=cntB_zero.2 fun i _=>by rw[decide_eq_false (by omega)];rfl
 rw[hd,cntB_add,h2,Nat.add_zero]
 exact cntB_congr fun i hi=>by rw[decide_eq_true hi,Bool.true_and]
def st1 (m x:Nat):Nat:=((x / 2) &&& m)+(x &&& m)
def st2 (m x:Nat):Nat:=((x / 4) &&& m)+(x &&& m)
def st3 (m x:Nat):Nat:=(x / 16+x) &&& m
def mskN (c:Nat):Nat->Nat
 | 0=>0
 | k+1=>256 * mskN c k+c
theorem mskN_succ (c k:Nat):mskN c (k+1)=256 * mskN c k+c:=rfl
theorem and_byt {x d m c:Nat}(hd:d<256)(hc:c<256):(256 * x+d) &&& (256 * m+c)=256 * (x &&& m)+(d &&& c):=by
 have hdc:d &&& c<2 ^ 8:=Nat.lt_of_le_of_lt Nat.and_le_left hd
 refine Nat.eq_of_testBit_eq fun i=>?_
 rw[Nat.testBit_and,show (256:Nat)=2 ^ 8 from rfl,Nat.testBit_two_pow_mul_add _ hd,Nat.testBit_two_pow_mul_add _ hc,Nat.testBit_two_pow_mul_add _ hdc]
 split <;> rw[Nat.testBit_and]
theorem b55:∀e:Fin 128,∀t:Fin 2,(128 * t.val+e.val) &&& 85=e.val &&& 85:=by decide +kernel
theorem b33:∀e:Fin 64,∀t:Fin 4,(64 * t.val+e.val) &&& 51=e.val &&& 51:=by decide +kernel
theorem st1_byt {x d m:Nat}(hd:d<256):st1 (256 * m+85) (256 * x+d)=256 * st1 m x+st1 85 d:=by
 have h2:(256 * x+d) / 2=256 * (x / 2)+(128 * (x % 2)+d / 2):=by omega
 have h3:=b55 ⟨d / 2,by omega⟩ ⟨x % 2,by omega⟩
 simp only at h3
 unfold st1
 rw[h2,and_byt (by omega) (by decide),and_byt hd (by decide),h3]
 omega
theorem st2_byt {x d m:Nat}(hd:d<256):st2 (256 * m+51) (256 * x+d)=256 * st2 m x+st2 51 d:=by
 have h2:(256 * x+d) / 4=256 * (x / 4)+(64 * (x % 4)+d / 4):=by omega
 have h3:=b33 ⟨d / 4,by omega⟩ ⟨x % 4,by omega⟩
 simp only at h3
 unfold st2
 rw[h2,and_byt (by omega) (by decide),and_byt hd (by decide),h3]
 omega
theorem st1_lt:∀d:Fin 256,st1 85 d.val<256:=by decide +kernel
theorem st21_lt:∀d:Fin 256,st2 51 (st1 85 d.val)<=68/\st2 51 (st1 85 d.val) % 16<=4:=by decide +kernel
theorem st321:∀d:Fin 256,st3 15 (st2 51 (st1 85 d.val))=bytN d.val:=by decide +kernel
theorem byt_le (d:Nat):bytN d<=8:=cntB_le _ _
theorem st3_byt {x d m:Nat}(hd:d<=68)(hx:x % 16<=4):st3 (256 * m+15) (256 * x+d)=256 * st3 m x+st3 15 d:=by
 have h2:(256 * x+d) / 16+(256 * x+d)=256 * (x / 16+x)+(16 * (x % 16)+d / 16+d):=by omega
 have e1:∀y,y &&& 15=y % 16:=fun y=>Nat.and_two_pow_sub_one_eq_mod y 4
 unfold st3
 rw[h2,and_byt (by omega) (by decide),e1,e1]
 omega
theorem st_nib:∀k x,st2 (mskN 51 k) (st1 (mskN 85 k) x) % 16<=4
 | 0,x=>by
  unfold st2 mskN
  rw[Nat.and_zero,Nat.and_zero];decide
 | k+1,x=>by
  have h:x=256 * (x / 256)+x % 256:=by omega
  have h1:=st1_lt ⟨x % 256,Nat.mod_lt _ (by decide)⟩
  have h2:=(st21_lt ⟨x % 256,Nat.mod_lt _ (by decide)⟩).2
  simp only at h1 h2
  rw[h,mskN_succ,mskN_succ,st1_byt (Nat.mod_lt _ (by decide)),st2_byt h1]
  omega
def stA (k x:Nat):Nat:=st3 (mskN 15 k) (st2 (mskN 51 k) (st1 (mskN 85 k) x))
theorem stA_succ (k x:Nat):stA (k+1) x=256 * stA k (x / 256)+bytN (x % 256):=by
 have h:x=256 * (x / 256)+x % 256:=by omega
 have h1:=st1_lt ⟨x % 256,Nat.mod_lt _ (by decide)⟩
 have h2:=(st21_lt ⟨x % 256,Nat.mod_lt _ (by decide)⟩).1
 have h3:=st321 ⟨x % 256,Nat.mod_lt _ (by decide)⟩
 simp only at h1 h2 h3
 have h4:=st_nib k (x / 256)
 unfold stA
 conv=>lhs;rw[h]
 rw[mskN_succ,mskN_succ,mskN_succ,st1_byt (Nat.mod_lt _ (by decide)),st2_byt h1,st3_byt h2 h4,h3]
theorem stA_zero (x:Nat):stA 0 x=0:=by
 unfold stA st3 mskN
 rw[Nat.and_zero]
theorem pop_byt:∀k x,cntB (fun b=>x.testBit b) (8 * (k+1))=bytN (x % 256)+cntB (fun b=>(x / 256).testBit b) (8 * k):=fun k x=>by
 rw[show 8 * (k+1)=8+8 * k by omega,cntB_add]
 congr 1
 ·refine cntB_congr fun i hi=>?_
  rw[show (256:Nat)=2 ^ 8 from rfl,Nat.testBit_mod_two_pow,decide_eq_true hi,Bool.true_and]
 ·refine cntB_congr fun i _=>?_
  rw[show (256:Nat)=2 ^ 8 from rfl,Nat.testBit_div_two_pow,Nat.add_comm]
def finN (y:Nat):Nat :=
 let y1:=y+y / 256
 let y2:=y1+y1 / 65536
 (y2+y2 / 4294967296) % 128
theorem fin_dig {D0 D1 D2 D3:Nat}(h0:D0<=10000)(h1:D1<=10000)(h2:D2<=10000)(h3:D3<=10000){y:Nat}(hy:y+y / 256=D0+65536 * (D1+65536 * (D2+65536 * D3))):finN y=(D0+D1+D2+D3) % 128:=by
 unfold finN
 simp only
 rw[hy]
 have e1:(D0+65536 * (D1+65536 * (D2+65536 * D3))) / 65536=D1+65536 * (D2+65536 * D3):=by
  generalize D1+65536 * (D2+65536 * D3)=A
  omega
 rw[e1]
 have e2:D0+65536 * (D1+65536 * (D2+65536 * D3))+(D1+65536 * (D2+65536 * D3))=(D0+D1+65536 * (D1+D2))+4294967296 * ((D2+D3)+65536 * D3):=by omega
 rw[e2]
 have e3:((D0+D1+65536 * (D1+D2))+4294967296 * ((D2+D3)+65536 * D3)) / 4294967296=(D2+D3)+65536 * D3:=by
  generalize (D2+D3)+65536 * D3=A
  omega
 rw[e3]
 omega
theorem fin_sum {c0 c1 c2 c3 c4 c5 c6 c7:Nat}(h0:c0<=8)(h1:c1<=8)(h2:c2<=8)(h3:c3<=8)(h4:c4<=8)(h5:c5<=8)(h6:c6<=8)(h7:c7<=8) :
  finN (256 * (256 * (256 * (256 * (256 * (256 * (256 * c7+c6)+c5)+c4)+c3)+c2)+c1)+c0)=c0+(c1+(c2+(c3+(c4+(c5+(c6+c7)))))):=by
 have e1:(256 * (256 * (256 * (256 * (256 * (256 * (256 * c7+c6)+c5)+c4)+c3)+c2)+c1)+c0) / 256=256 * (256 * (256 * (256 * (256 * (256 * c7+c6)+c5)+c4)+c3)+c2)+c1:=by
  generalize 256 * (256 * (256 * (256 * (256 * (256 * c7+c6)+c5)+c4)+c3)+c2)+c1=A
  omega
 rw[fin_dig (D0:=c0+c1+256 * (c1+c2)) (D1:=c2+c3+256 * (c3+c4)) (D2:=c4+c5+256 * (c5+c6)) (D3:=c6+c7+256 * c7) (by omega) (by omega) (by omega) (by omega) (by rw[e1];omega)]
 omega
theorem stA_8 (x:Nat):finN (stA 8 x)=popN x:=by
 have hb:=byt_le
 unfold popN
 rw[show (64:Nat)=8 * (7+1) from rfl,pop_byt,pop_byt 6,pop_byt 5,pop_byt 4,pop_byt 3,pop_byt 2,pop_byt 1,pop_byt 0]
 rw[stA_succ,stA_succ,stA_succ,stA_succ,stA_succ,stA_succ,stA_succ,stA_succ,stA_zero]
 have h:=fin_sum (hb (x % 256)) (hb (x / 256 % 256)) (hb (x / 256 / 256 % 256)) (hb (x / 256 / 256 / 256 % 256)) (hb (x / 256 / 256 / 256 / 256 % 256)) (hb (x / 256 / 256 / 256 / 256 / 256 % 256)) (hb (x / 256 / 256 / 256 / 256 / 256 / 256 % 256)) (hb (x / 256 / 256 / 256 / 256 / 256 / 256 / 256 % 256))
 rw[show 256 * 0+bytN (x / 256 / 256 / 256 / 256 / 256 / 256 / 256 % 256)=bytN (x / 256 / 256 / 256 / 256 / 256 / 256 / 256 % 256) by omega,h]
 show _=_+(_+(_+(_+(_+(_+(_+(_+cntB _ 0)))))))
 have:∀f,cntB f 0=0:=fun f=>rfl
 rw[this];omega
theorem msk8:mskN 85 8=6148914691236517205/\mskN 51 8=3689348814741910323/\mskN 15 8=1085102592571150095:=by decide +kernel
theorem low_split {x k:Nat}(hx:x<2 ^ 64)(hk:x.testBit k=true)(hl:∀i,i<k->x.testBit i=false):k<64/\∃m,x=2 ^ (k+1) * m+2 ^ k/\m<2 ^ (63 - k):=by
 have hk64:k<64:=by
  apply Classical.byContradiction
  intro h
  have hp:2 ^ 64<=2 ^ k:=Nat.pow_le_pow_right (by decide) (by omega)
  rw[Nat.testBit_lt_two_pow (by omega)] at hk
  cases hk
 have hmod:x % 2 ^ (k+1)=2 ^ k:=by
  refine Nat.eq_of_testBit_eq fun i=>?_
  rw[Nat.testBit_mod_two_pow,Nat.testBit_two_pow]
  by_cases h:i<k
  ·rw[hl i h,Bool.and_false,decide_eq_false (by omega)]
  ·by_cases e:k=i
   ·subst e;rw[hk,decide_eq_true (by omega),decide_eq_true rfl];rfl
   ·rw[decide_eq_false (by omega),Bool.false_and,decide_eq_false e]
 have hdm:=Nat.div_add_mod x (2 ^ (k+1))
 rw[hmod] at hdm
 refine⟨hk64,x / 2 ^ (k+1),hdm.symm,?_⟩
 refine Nat.div_lt_of_lt_mul ?_
 rw[<- Nat.pow_add,show k+1+(63 - k)=64 by omega]
 exact hx
theorem low_neg {x k:Nat}(hx:x<2 ^ 64)(hk:x.testBit k=true)(hl:∀i,i<k->x.testBit i=false):x &&& (2 ^ 64 - x)=2 ^ k:=by
 obtain⟨hk64,m,rfl,hm⟩:=low_split hx hk hl
 have hp:2 ^ (k+1) * 2 ^ (63 - k)=2 ^ 64:=by rw[<- Nat.pow_add,show k+1+(63 - k)=64 by omega]
 have hk1:2 ^ (k+1)=2 * 2 ^ k:=by rw[Nat.pow_succ];omega
 have hkl:2 ^ k<2 ^ (k+1):=by have:=Nat.two_pow_pos k;omega
 have hneg:2 ^ 64 - (2 ^ (k+1) * m+2 ^ k)=2 ^ (k+1) * (2 ^ (63 - k) - (m+1))+2 ^ k:=by
  rw[Nat.mul_sub,hp,Nat.mul_succ]
  have:2 ^ (k+1) * m+2 ^ (k+1)<=2 ^ 64:=by
   rw[<- hp,<- Nat.mul_succ]
   exact Nat.mul_le_mul_left _ hm
  omega
 rw[hneg]
 refine Nat.eq_of_testBit_eq fun i=>?_
 rw[Nat.testBit_and,Nat.testBit_two_pow_mul_add _ hkl,Nat.testBit_two_pow_mul_add _ hkl]
 by_cases h:i<k+1
 ·rw[if_pos h,if_pos h,Bool.and_self]
 ·rw[if_neg h,if_neg h,Nat.testBit_two_pow_sub_succ hm,Nat.testBit_two_pow,decide_eq_false (show ¬k=i by omega)]
  cases m.testBit (i - (k+1)) <;> simp
theorem low_off {x k:Nat}(hx:x<2 ^ 64)(hk:x.testBit k=true)(hl:∀i,i<k->x.testBit i=false):(∀i,(x &&& (x - 1)).testBit i=(x.testBit i && !decide (i=k)))/\1<=x:=by
 obtain⟨hk64,m,rfl,hm⟩:=low_split hx hk hl
 have hk1:2 ^ (k+1)=2 * 2 ^ k:=by rw[Nat.pow_succ];omega
 have hpos:=Nat.two_pow_pos k
 have hkl:2 ^ k<2 ^ (k+1):=by omega
 have hkl2:2 ^ k - 1<2 ^ (k+1):=by omega
 refine⟨fun i=>?_,by omega⟩
 rw[show 2 ^ (k+1) * m+2 ^ k - 1=2 ^ (k+1) * m+(2 ^ k - 1) by omega,Nat.testBit_and,Nat.testBit_two_pow_mul_add _ hkl,Nat.testBit_two_pow_mul_add _ hkl2]
 by_cases h:i<k+1
 ·rw[if_pos h,if_pos h,Nat.testBit_two_pow,Nat.testBit_two_pow_sub_one]
  by_cases e:i=k
  ·subst e;simp
  ·rw[decide_eq_false (show ¬k=i by omega)];simp
 ·rw[if_neg h,if_neg h,Bool.and_self,decide_eq_false (show ¬i=k by omega),Bool.not_false,Bool.and_true]
end Go.AL
end
