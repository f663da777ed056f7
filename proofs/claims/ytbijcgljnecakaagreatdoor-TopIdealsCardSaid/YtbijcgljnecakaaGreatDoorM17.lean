/- Texts of this claim's proof: WJ4, WJ5, WY26, WY27, WZ6. No condition. -/
import Derived.Test.YtbijcgljnecakaaGreatDoorM16
import Derived.Test.YtbijcgljnecakaaGreatDoorM14
import Derived.Test.YtbijcgljnecakaaGreatDoorM15
section
namespace Go.AL
open Go Go.RowKit
set_option maxRecDepth 4000
theorem words_equal (a b:List Nat) (ha:a.length≤1000000):PC Proofs.Tryz.prog 26 [.sl 1 (a.map fun w:Nat=>au64 (w:Int)),.sl 1 (b.map fun w:Nat=>au64 (w:Int))] (ab (decide (a=b))):=by
 have hal:(a.map fun w:Nat=>au64 (w:Int)).length=a.length:=List.length_map _
 have hbl:(b.map fun w:Nat=>au64 (w:Int)).length=b.length:=List.length_map _
 refine PC.enter 26 [.tmp 4] [] Proofs.Tryz.func26 rfl rfl rfl rfl rfl (by simp) (AWp.of ?_);simp only[go_sem]
 refine W2 hal hbl ?_
 refine⟨fun h1 => ?_,fun h1 => ?_⟩
 ·refine Wk ?_
  refine ret_eq ?_;simp only[go_sem]
  congr 2;symm;apply decide_eq_false;rintro rfl;exact h1 rfl
 ·have hab:a.length=b.length:=by omega
  refine W1 hal ?_
  refine AWp.range' a.length [] [0,1,12] (fun k vs L=>L=[]∧∀(i:Nat) (hi:i<a.length),i<k→a[i]=b[i]) (by omega) rfl rfl (by first|rfl|(simp only[go_sem,hal];done)|exact congrArg (fun z:Nat=>ai (z:Int)) hal) ⟨rfl,by omega⟩ ?_ ?_
  ·rintro k vs L' hk - ⟨rfl,hI⟩
   have hkb:k<b.length:=by omega
   have g1:(a.map fun w:Nat=>au64 (w:Int)).getD k .any=au64 ((a[k]:Nat):Int):=getD_map (f:=fun w:Nat=>au64 (w:Int)) hk
   have g2:(b.map fun w:Nat=>au64 (w:Int)).getD k .any=au64 ((b[k]:Nat):Int):=getD_map (f:=fun w:Nat=>au64 (w:Int)) hkb
   simp only[go_sem]
   refine Wk ?_
   repeat(first|(with_reducible refine AWp.seq ?_)|(with_reducible refine AWp.block ?_))
   refine AWp.mix mixed [0,1,2,3,4,5,6,7,8] .done (by kernel_rfl) ?_;simp only[go_sem,g1,g2,hal,hbl]
   refine Sd ?_
   refine Wk ?_
   refine⟨fun h2 => ?_,fun h2 => ?_⟩
   ·refine Wk ?_
    refine ret_eq ?_;simp only[go_sem]
    congr 2;symm;apply decide_eq_false;rintro rfl;exact h2 rfl
   ·refine⟨_,List.Sublist.refl _,rfl,fun i hi hik => ?_⟩
    by_cases e:i=k
    ·subst e;omega
    ·exact hI i hi (by omega)
  ·rintro vs L' - ⟨rfl,hI⟩
   simp only[go_sem]
   refine Wk ?_
   refine ret_eq ?_;simp only[go_sem]
   congr 2;symm;apply decide_eq_true
   exact List.ext_getElem hab (fun i h1 h2=>hI i h1 h1)
def eqN (n:Nat) (f g:Nat→Bool):Bool:=(List.range n).all fun i=>f i == g i
theorem eqN_iff {n:Nat} {f g:Nat→Bool} : eqN n f g=true↔∀i,i<n→f i=g i:=by
 unfold eqN
 rw[List.all_eq_true]
 exact⟨fun h i hi=>by simpa using h i (List.mem_range.2 hi),fun h i hi=>by simpa using h i (List.mem_range.1 hi)⟩
theorem wds_inj {n:Nat} {f g:Nat→Bool} (h:wordsF f n n=wordsF g n n):∀i,i<n→f i=g i:=fun i hi=>by
 have hk:i / 64<nW n:=by unfold nW;omega
 have h1:=words_get (f:=f) (n:=n) (j:=n) hk
 rw[h,words_get hk] at h1
 have h2:=Option.some.inj h1
 have h3:=bit_word (f:=f) (w:=i / 64) (b:=i % 64) (Nat.mod_lt _ (by decide)) (j:=n)
 rw[← h2,bit_word (Nat.mod_lt _ (by decide)),show 64 * (i / 64)+i % 64=i by omega,decide_eq_true hi] at h3
 simpa using h3.symm
theorem wds_dec (n:Nat) (f g:Nat→Bool):decide (wordsF f n n=wordsF g n n)=eqN n f g:=by
 rw[Bool.eq_iff_iff,decide_eq_true_iff,eqN_iff]
 exact⟨wds_inj,words_congr⟩
theorem bits_OfNil (n:Nat) (hn:n≤512):PC Proofs.Tryz.prog 45 [ai n,anil] (.tup [aNs n (fun _=>false),ai 0]):=by
 have h:=bits_Of n hn fun _=>false
 rw[List.filter_eq_nil_iff.2 (fun a _=>by decide)] at h
 exact PC.nilB (k:=1) h
theorem poset_empty (n:Nat) (hn:n≤512) (F:Nat→Nat→Bool):PC Proofs.Tryz.prog 134 [aRelN n F] (aNs n fun _=>false):=by
 have h1:=bits_OfNil n hn
 have hlen:((List.range n).map fun i=>aNs n (F i)).length=n:=by simp
 rw[aRelN_eq]
 rw[aNs_eq] at *
 generalize (List.range n).map (fun i=>aNs n (F i))=R at *
 generalize (wordsF (fun _=>false) n n).map (fun w:Nat=>au64 (w:Int))=W at *
 refine PC.enter 13 [.cell 2 38] [1,3] Proofs.Tryz.func134 rfl rfl rfl rfl rfl (by simp) (AWp.of ?_);simp only[go_sem]
 refine Wk ?_
 intro b2
 refine W1 hlen ?_
 refine Sd ?_
 refine(h1).val.use ?_;simp only[go_sem]
 intros
 refine Wk ?_
 refine ret_eq ?_;simp only[go_sem]
theorem poset_matching (n:Nat) (hn:n≤512) (F:Nat→Nat→Bool) (hirr:∀i,i<n→F i i=false) (htr:∀i j k,i<n→j<n→k<n→F i j=true→F j k=true→F i k=true) (f:Nat→Bool):PC Proofs.Tryz.prog 91 [aRelN n F,aNs n f] (ab true):=by
 have h1:=poset_Valid n hn F hirr htr
 have h2:=bits_Valid n hn f
 have hlen:((List.range n).map fun i=>aNs n (F i)).length=n:=by simp
 rw[aRelN_eq] at *
 rw[aNs_eq n f] at *
 generalize (List.range n).map (fun i=>aNs n (F i))=R at *
 generalize (wordsF f n n).map (fun w:Nat=>au64 (w:Int))=W at *
 refine PC.enter 19 [.tmp 4] [2,3] Proofs.Tryz.func91 rfl rfl rfl rfl rfl (by simp) (AWp.of ?_);simp only[go_sem]
 refine Wk ?_
 refine Sd ?_
 refine(h1).val.use ?_;simp only[go_sem]
 refine Sd ?_
 refine Gc h2 ?_
 simp only[go_sem,hlen]
 refine Sd ?_
 refine W1 hlen ?_
 refine ret_eq ?_;simp only[go_sem]
theorem filR_eq (f:Nat→Bool) (n:Nat):filR f n=((List.range n).filter f).map fun j:Nat=>ai j:=rfl
def abvL (F:Nat→Nat→Bool) (l:List Nat):Nat→Bool:=fun j=>l.any fun i=>F i j
theorem abvL_snoc {F:Nat→Nat→Bool} {l:List Nat} {k:Nat} (hk:k<l.length):(fun j=>abvL F (l.take k) j || F l[k] j)=abvL F (l.take (k+1)):=by
 funext j
 unfold abvL
 rw[List.take_succ_eq_append_getElem hk,List.any_append];simp
theorem poset_above (n:Nat) (hn:n≤512) (F:Nat→Nat→Bool) (f:Nat→Bool):PC Proofs.Tryz.prog 118 [aRelN n F,aNs n f] (aNs n (abvL F ((List.range n).filter f))):=by
 have h1:=poset_empty n hn F
 have h2:=bits_Members n hn f
 rw[filR_eq] at h2
 have hlen:((List.range n).map fun i=>aNs n (F i)).length=n:=by simp
 have hgi:=fun i (hi:i<n)=>map_range_getD hi (fun i=>aNs n (F i))
 have hu:=fun g i=>bits_Union n hn g (F i)
 rw[aRelN_eq] at *
 generalize (List.range n).map (fun i=>aNs n (F i))=R at *
 simp only[aNs_wd] at *
 have hML:((List.range n).filter f).length≤n:=Nat.le_trans (List.length_filter_le _ _) (by rw[List.length_range];exact Nat.le_refl _)
 have hMm:∀i ∈ (List.range n).filter f,i<n:=fun i hi=>List.mem_range.1 (List.mem_filter.1 hi).1
 generalize (List.range n).filter f=M at *
 have hlm:(M.map fun j:Nat=>ai (j:Int)).length=M.length:=List.length_map _
 refine PC.enter 35 [.cell 4 38] [2,3] Proofs.Tryz.func118 rfl rfl rfl rfl rfl (by simp) (AWp.of ?_);simp only[go_sem]
 refine Wk ?_
 intro b4
 refine Wk ?_
 refine Sd ?_
 refine(h1).val.use ?_;simp only[go_sem]
 intro b5 g5
 have m1:¬b4=b5:=by omega
 have m2:¬b5=b4:=by omega
 refine W2 m1 m2 ?_
 refine Sd ?_
 refine(h2).val.use ?_;simp only[go_sem,m1,m2]
 refine W2 m1 m2 ?_
 refine AWp.range' M.length [] [2,4,5,17,18] (fun k vs L=>vs=[]∧L=[(b5,.row 38 2 [.agg [ai n,.sl 1 (wdV n (abvL F (M.take k)))]] 1),(b4,.row 38 2 [.agg [ai 0,anil]] 1)]) (by omega) rfl rfl (by first|rfl|exact congrArg (fun z:Nat=>ai (z:Int)) hlm) ⟨rfl,rfl⟩ ?_ ?_
 ·rintro k vs L hk - ⟨rfl,rfl⟩
  have hgk:(M.map fun j:Nat=>ai (j:Int)).getD k .any=ai ((M[k]:Nat):Int):=getD_map (f:=fun j:Nat=>ai (j:Int)) hk
  have hMk:=hMm _ (List.getElem_mem hk)
  have hgM:=hgi _ hMk
  have huk:=hu (abvL F (M.take k)) M[k]
  rw[abvL_snoc hk] at huk
  generalize M[k]=x at *
  generalize wdV n (abvL F (M.take k))=V0w at *
  generalize wdV n (abvL F (M.take (k+1)))=V1w at *
  simp only[go_sem]
  refine W1 hgk ?_
  repeat(first|(with_reducible refine AWp.seq ?_)|(with_reducible refine AWp.block ?_))
  refine AWp.mix mixed [1,2,3,4,5] (.step 0 (.step 6 (.step 7 (.step 8 (.step 9 (.step 10 .done .done) (.step 10 (.step 9 .done .done) .done)) (.step 9 (.step 8 (.step 10 .done .done) .done) .done)) .done) .done) .done) (by kernel_rfl) ?_;simp only[go_sem,hgM,hlen,m1,m2]
  refine Sd ?_
  refine Sd ?_
  refine(huk).val.use ?_;simp only[go_sem,m1,m2]
  repeat' (first|(with_reducible refine And.intro ?_ ?_))
  all_goals first|exact True.intro|omega|skip
  all_goals exact⟨_,List.Sublist.refl _,rfl⟩
 ·rintro vs L - ⟨rfl,rfl⟩
  rw[List.take_length]
  simp only[go_sem,m1,m2]
  refine W2 m1 m2 ?_
  refine ret_eq ?_
  simp only[go_sem,m1,m2]
section
variable (n:Nat) (hn:n≤512) (F:Nat→Nat→Bool) (hirr:∀i,i<n→F i i=false) (htr:∀i j k,i<n→j<n→k<n→F i j=true→F j k=true→F i k=true) (f:Nat→Bool)
include hn hirr htr
theorem poset_Up:PC Proofs.Tryz.prog 93 [aRelN n F,aNs n f] (.tup [aNs n fun j=>f j || abvL F ((List.range n).filter f) j,ai 0]):=by
 have h1:=poset_matching n hn F hirr htr f
 have h2:=poset_above n hn F f
 have h3:=bits_Union n hn f (abvL F ((List.range n).filter f))
 rw[aRelN_eq] at *
 generalize (List.range n).map (fun i=>aNs n (F i))=R at *
 simp only[aNs_wd] at *
 generalize (wdV n fun j=>f j || abvL F ((List.range n).filter f) j)=V1w at *
 generalize wdV n (abvL F ((List.range n).filter f))=V2w at *
 generalize wdV n f=W at *
 refine PC.enter 18 [.cell 4 38,.tmp 5] [2,3] Proofs.Tryz.func93 rfl rfl rfl rfl rfl (by simp) (AWp.of ?_);simp only[go_sem]
 refine Wk ?_
 intro b4
 refine Wk ?_
 refine Sd ?_
 refine(h1).val.use ?_;simp only[go_sem]
 refine Wk ?_
 repeat(first|(with_reducible refine AWp.seq ?_)|(with_reducible refine AWp.block ?_))
 refine AWp.mix mixed [0,1,2,3,4,5,6,8] (.step 7 .done .done) (by kernel_rfl) ?_;simp only[go_sem]
 refine Sd ?_
 refine Gc h2 ?_
 refine Sd ?_
 refine Gc h3 ?_
 refine Sd ?_
 refine Wk ?_
 refine ret_eq ?_;simp only[go_sem]
end
theorem poset_Down (n:Nat) (hn:n≤512) (F:Nat→Nat→Bool) (hirr:∀i,i<n→F i i=false) (htr:∀i j k,i<n→j<n→k<n→F i j=true→F j k=true→F i k=true) (f:Nat→Bool):PC Proofs.Tryz.prog 49 [aRelN n F,aNs n f] (.tup [aNs n fun j=>f j || abvL (fun i j=>F j i) ((List.range n).filter f) j,ai 0]):=by
 have h1:=poset_matching n hn F hirr htr f
 have h2:=relation_Inverse n hn F
 have h3:=poset_Up n hn (fun i j=>F j i) hirr (fun i j k hi hj hk a b=>htr k j i hk hj hi b a) f
 rw[aRelN_eq,aRelN_eq] at *
 generalize (List.range n).map (fun i=>aNs n (F i))=R at *
 generalize (List.range n).map (fun i=>aNs n (fun j=>F j i))=R2 at *
 simp only[aNs_wd] at *
 generalize (wdV n fun j=>f j || abvL (fun i j=>F j i) ((List.range n).filter f) j)=V1w at *
 generalize wdV n f=W at *
 refine PC.enter 23 [.cell 4 38,.tmp 5] [2,3,6] Proofs.Tryz.func49 rfl rfl rfl rfl rfl (by simp) (AWp.of ?_);simp only[go_sem]
 refine Wk ?_
 intro b4
 refine Wk ?_
 refine Sd ?_
 refine(h1).val.use ?_;simp only[go_sem]
 refine Wk ?_
 refine Sd ?_
 refine(h2).val.use ?_;simp only[go_sem]
 intros
 refine Wk ?_
 refine Sd ?_
 refine(h3).val.use ?_;simp only[go_sem]
 refine Wk ?_
 refine ret_eq ?_;simp only[go_sem]
def idlB (n:Nat) (F:Nat→Nat→Bool) (f:Nat→Bool):Bool:=(List.range n).all fun j=>(List.range n).all fun i => !(F i j && f j) || f i
theorem idlB_iff {n:Nat} {F:Nat→Nat→Bool} {f:Nat→Bool} : idlB n F f=true↔∀i j,i<n→j<n→F i j=true→f j=true→f i=true:=by
 unfold idlB
 simp only[List.all_eq_true,List.mem_range,Bool.or_eq_true,Bool.not_eq_true',Bool.and_eq_false_iff]
 constructor
 ·intro h i j hi hj h1 h2
  rcases h j hj i hi with (h3|h3)|h3
  ·rw[h1] at h3;cases h3
  ·rw[h2] at h3;cases h3
  ·exact h3
 ·intro h j hj i hi
  cases h1:F i j with
  | false=>exact .inl (.inl rfl)
  | true=>cases h2:f j with
   | false=>exact .inl (.inr rfl)
   | true=>exact .inr (h i j hi hj h1 h2)
theorem idl_down (n:Nat) (F:Nat→Nat→Bool) (f:Nat→Bool):eqN n (fun j=>f j || abvL (fun i j=>F j i) ((List.range n).filter f) j) f=idlB n F f:=by
 rw[Bool.eq_iff_iff,eqN_iff,idlB_iff]
 unfold abvL
 constructor
 ·intro h i j hi hj h1 h2
  rw[← h i hi,Bool.or_eq_true,List.any_eq_true]
  exact .inr ⟨j,List.mem_filter.2 ⟨List.mem_range.2 hj,h2⟩,h1⟩
 ·intro h i hi
  cases hf:f i with
  | true=>rfl
  | false =>
   rw[Bool.false_or,Bool.eq_false_iff]
   intro h1
   obtain⟨j,hj,h2⟩:=List.any_eq_true.1 h1
   obtain⟨h3,h4⟩:=List.mem_filter.1 hj
   rw[h i j hi (List.mem_range.1 h3) h2 h4] at hf;cases hf
theorem ideal_Is (n:Nat) (hn:n≤512) (F:Nat→Nat→Bool) (hirr:∀i,i<n→F i i=false) (htr:∀i j k,i<n→j<n→k<n→F i j=true→F j k=true→F i k=true) (f:Nat→Bool):PC Proofs.Tryz.prog 12 [aRelN n F,aNs n f] (ab (idlB n F f)):=by
 have h1:=poset_Down n hn F hirr htr f
 have h2:=words_equal (wordsF (fun j=>f j || abvL (fun i j=>F j i) ((List.range n).filter f) j) n n) (wordsF f n n) (by rw[words_len];unfold nW;omega)
 rw[wds_dec,idl_down] at h2
 change PC _ _ [.sl 1 (wdV n fun j=>f j || abvL (fun i j=>F j i) ((List.range n).filter f) j),.sl 1 (wdV n f)] _ at h2
 rw[aRelN_eq] at *
 generalize (List.range n).map (fun i=>aNs n (F i))=R at *
 simp only[aNs_wd] at *
 generalize (wdV n fun j=>f j || abvL (fun i j=>F j i) ((List.range n).filter f) j)=V1w at *
 generalize wdV n f=W at *
 generalize idlB n F f=b at *
 refine PC.enter 22 [.tmp 4] [2,3,5] Proofs.Tryz.func12 rfl rfl rfl rfl rfl (by simp) (AWp.of ?_);simp only[go_sem]
 refine Wk ?_
 refine Sd ?_
 refine(h1).val.use ?_;simp only[go_sem]
 intros
 refine Wk ?_
 refine Sd ?_
 refine Gc h2 ?_
 refine Sd ?_
 refine Wk ?_
 refine ret_eq ?_;simp only[go_sem]
theorem ideal_below (n:Nat) (hn:n≤512) (F:Nat→Nat→Bool):PC Proofs.Tryz.prog 52 [aRelN n F] (.sl 2 ((List.range n).map fun i=>aNs n fun j=>F j i)):=by
 have h2:=relation_Inverse n hn F
 rw[aRelN_eq,aRelN_eq] at *
 generalize (List.range n).map (fun i=>aNs n (F i))=R at *
 generalize (List.range n).map (fun i=>aNs n (fun j=>F j i))=R2 at *
 refine PC.enter 12 [.tmp 2] [1,3] Proofs.Tryz.func52 rfl rfl rfl rfl rfl (by simp) (AWp.of ?_);simp only[go_sem]
 refine Wk ?_
 refine Sd ?_
 refine(h2).val.use ?_;simp only[go_sem]
 intros
 refine Wk ?_
 refine ret_eq ?_;simp only[go_sem]
def nxN (n:Nat) (G:Nat→Nat→Bool) (f:Nat→Bool) (i:Nat):Bool:=!f i && subN n (G i) f
theorem ideal_next (n:Nat) (hn:n≤512) (G:Nat→Nat→Bool) (f:Nat→Bool):PC Proofs.Tryz.prog 51 [.sl 2 ((List.range n).map fun i=>aNs n (G i)),aNs n f] (.sl 1 (((List.range n).filter (nxN n G f)).map fun j:Nat=>ai j)):=by
 have hlen:((List.range n).map fun i=>aNs n (G i)).length=n:=by simp
 have hgi:=fun i (hi:i<n)=>map_range_getD hi (fun i=>aNs n (G i))
 have h1:=fun (i:Nat)=>bits_Has n hn f i
 have h2:=fun (i:Nat)=>bits_Subset n hn (G i) f
 generalize (List.range n).map (fun i=>aNs n (G i))=R at *
 simp only[aNs_wd] at *
 refine PC.enter 30 [.tmp 4] [3,7,26] Proofs.Tryz.func51 rfl rfl rfl rfl rfl (by simp) (AWp.of ?_);simp only[go_sem]
 refine W1 hlen ?_
 refine AWp.range' n [5] [3,8,9] (fun k vs L=>∃v,vs=[v]∧AppSt 3 1 (((List.range k).filter (nxN n G f)).map fun j:Nat=>ai j) v L) (by omega) rfl rfl rfl ⟨anil,rfl,.nil⟩ ?_ ?_
 ·rintro k vs L hk - ⟨v,rfl,hA⟩
  have hg:=hgi k hk
  have h1k:=h1 k
  have h2k:=h2 k
  have e1:(decide ((0:Int)≤(k:Nat)) && decide (((k:Nat):Int)<n) && f ((k:Nat):Int).toNat)=f k:=by
   rw[decide_eq_true (show (0:Int)≤(k:Nat) by omega),decide_eq_true (show ((k:Nat):Int)<n by omega)];rfl
  rw[e1] at h1k
  have hs:(List.range (k+1)).filter (nxN n G f)=(List.range k).filter (nxN n G f) ++ if nxN n G f k=true then [k] else []:=by
   rw[List.range_succ,List.filter_append]
   congr 1
   by_cases h:nxN n G f k=true
   ·rw[if_pos h,List.filter_cons_of_pos h];rfl
   ·rw[if_neg h,List.filter_cons_of_neg h];rfl
  have hyl:(((List.range k).filter (nxN n G f)).map fun j:Nat=>ai (j:Int)).length≤k:=by
   rw[List.length_map]
   exact Nat.le_trans (List.length_filter_le _ _) (by rw[List.length_range];exact Nat.le_refl _)
  have hx:nxN n G f k=(!f k && subN n (G k) f):=rfl
  rw[hs,List.map_append]
  rw[hx]
  generalize ((List.range k).filter (nxN n G f)).map (fun j:Nat=>ai (j:Int))=ys at *
  generalize f k=b1 at *
  generalize subN n (G k) f=b2 at *
  clear hs hx h1 h2
  have hfo:=hA.fo
  simp only[go_sem]
  refine W2 hg hfo ?_
  intros
  refine W2 hg hfo ?_
  refine Sd ?_
  refine(h1k).val.use ?_;simp only[go_sem,hfo]
  refine Sd ?_
  refine GCall.use (ab b2) (fun _=>⟨At,(h2k).val.use ⟨rfl,rfl⟩⟩) ?_;simp only[go_sem,hfo]
  refine Sd ?_
  cases b1 with
  | true =>
   refine W1 hfo ?_
   exact⟨_,List.Sublist.refl _,_,rfl,by simpa using hA⟩
  | false =>
   cases b2 with
   | false =>
    refine W1 hfo ?_
    exact⟨_,List.Sublist.refl _,_,rfl,by simpa using hA⟩
   | true =>
    rcases hA.inv with ⟨e1,rfl,rfl⟩|⟨bq,cq,rfl,rfl⟩
    ·refine Wk ?_
     intro b' cap' g8
     exact⟨_,List.Sublist.refl _,_,rfl,by rw[e1];exact .row _ [_] _⟩
    ·refine Wk ?_
     refine Sd ?_
     intro b' cap' g8
     exact⟨_,List.Sublist.refl _,_,rfl,AppSt.snoc _ _ _ rfl⟩
 ·rintro vs L - ⟨v,rfl,hA⟩
  generalize ((List.range n).filter (nxN n G f)).map (fun j:Nat=>ai (j:Int))=ys at *
  rcases hA.inv with ⟨e3,rfl,rfl⟩|⟨bq,cap,rfl,rfl⟩
  ·simp only[go_sem]
   refine Wk ?_
   refine ret_view [] ?_;simp only[go_sem]
   rw[e3]
   exact .nil 1
  ·simp only[go_sem]
   refine Wk ?_
   refine ret_view [true] ?_;simp only[go_sem]
   exact Vw.ofLs (t:=3) (cap:=cap) (if_pos rfl) rfl
theorem ideal_Next (n:Nat) (hn:n≤512) (F:Nat→Nat→Bool) (hirr:∀i,i<n→F i i=false) (htr:∀i j k,i<n→j<n→k<n→F i j=true→F j k=true→F i k=true) (f:Nat→Bool) (hf:idlB n F f=true):PC Proofs.Tryz.prog 14 [aRelN n F,aNs n f] (.tup [.sl 1 (((List.range n).filter (nxN n (fun i j=>F j i) f)).map fun j:Nat=>ai j),ai 0]):=by
 have h1:=ideal_Is n hn F hirr htr f
 rw[hf] at h1
 have h2:=ideal_below n hn F
 have h3:=ideal_next n hn (fun i j=>F j i) f
 rw[aRelN_eq] at *
 generalize (List.range n).map (fun i=>aNs n (F i))=R at *
 generalize (List.range n).map (fun i=>aNs n (fun j=>F j i))=R2 at *
 generalize ((List.range n).filter (nxN n (fun i j=>F j i) f)).map (fun j:Nat=>ai (j:Int))=Y at *
 simp only[aNs_wd] at *
 generalize wdV n f=W at *
 refine PC.enter 14 [.tmp 4,.tmp 5] [2,3] Proofs.Tryz.func14 rfl rfl rfl rfl rfl (by simp) (AWp.of ?_);simp only[go_sem]
 refine Wk ?_
 refine Sd ?_
 refine(h1).val.use ?_;simp only[go_sem]
 refine Wk ?_
 repeat(first|(with_reducible refine AWp.seq ?_)|(with_reducible refine AWp.block ?_))
 refine AWp.mix mixed [0,1,2,3,4,5] .done (by kernel_rfl) ?_;simp only[go_sem]
 refine Sd ?_
 refine Gc h2 ?_
 refine Sd ?_
 refine Gc h3 ?_
 refine Sd ?_
 refine Wk ?_
 refine ret_eq ?_;simp only[go_sem]
def frN (n:Nat) (F:Nat→Nat→Bool) (f:Nat→Bool) (i:Nat):Bool:=f i && decide (cntB (fun j=>F i j && f j) n=0)
theorem ideal_Frontier (n:Nat) (hn:n≤512) (F:Nat→Nat→Bool) (hirr:∀i,i<n→F i i=false) (htr:∀i j k,i<n→j<n→k<n→F i j=true→F j k=true→F i k=true) (f:Nat→Bool) (hf:idlB n F f=true):PC Proofs.Tryz.prog 13 [aRelN n F,aNs n f] (.tup [aNs n (frN n F f),ai 0]):=by
 have h1:=ideal_Is n hn F hirr htr f
 rw[hf] at h1
 have h2:=bits_Members n hn f
 rw[filR_eq] at h2
 have h3:=fun i=>bits_Inter n hn (F i) f
 have h4:=fun i=>bits_Count n hn (fun j=>F i j && f j)
 have h5:=bits_Of n hn (frN n F f)
 change PC _ _ _ (.tup [aNs n (frN n F f),ai 0]) at h5
 have hfil:(List.range n).filter (frN n F f)=((List.range n).filter f).filter fun i=>decide (cntB (fun j=>F i j && f j) n=0):=by
  rw[List.filter_filter]
  exact List.filter_congr fun i _=>by unfold frN;rw[Bool.and_comm]
 rw[hfil] at h5
 have hlen:((List.range n).map fun i=>aNs n (F i)).length=n:=by simp
 have hgi:=fun i (hi:i<n)=>map_range_getD hi (fun i=>aNs n (F i))
 rw[aRelN_eq] at *
 generalize (List.range n).map (fun i=>aNs n (F i))=R at *
 simp only[aNs_wd] at *
 have hML:((List.range n).filter f).length≤n:=Nat.le_trans (List.length_filter_le _ _) (by rw[List.length_range];exact Nat.le_refl _)
 have hMm:∀i ∈ (List.range n).filter f,i<n:=fun i hi=>List.mem_range.1 (List.mem_filter.1 hi).1
 clear hfil
 generalize wdV n (frN n F f)=WF at *
 generalize (List.range n).filter f=M at *
 have hlm:(M.map fun j:Nat=>ai (j:Int)).length=M.length:=List.length_map _
 refine PC.enter 53 [.cell 4 38,.tmp 5] [2,3,11,44] Proofs.Tryz.func13 rfl rfl rfl rfl rfl (by simp) (AWp.of ?_);simp only[go_sem]
 refine Wk ?_
 intro b4
 refine Wk ?_
 refine Sd ?_
 refine(h1).val.use ?_;simp only[go_sem]
 refine Wk ?_
 refine Sd ?_
 refine(h2).val.use ?_;simp only[go_sem]
 refine Wk ?_
 refine AWp.range' M.length [8] [2,3,4,23,24] (fun k vs L=>∃v Ln,vs=[v]∧L=Ln ++ [(b4,.row 38 2 [.agg [ai 0,anil]] 1)]∧AppSt 3 1 (((M.take k).filter fun i=>decide (cntB (fun j=>F i j && f j) n=0)).map fun j:Nat=>ai j) v Ln) (by omega) rfl rfl (by first|rfl|exact congrArg (fun z:Nat=>ai (z:Int)) hlm) ⟨anil,[],rfl,rfl,.nil⟩ ?_ ?_
 ·rintro k vs L hk - ⟨v,Ln,rfl,rfl,hA⟩
  have hgk:(M.map fun j:Nat=>ai (j:Int)).getD k .any=ai ((M[k]:Nat):Int):=getD_map (f:=fun j:Nat=>ai (j:Int)) hk
  have hMk:=hMm _ (List.getElem_mem hk)
  have hgM:=hgi _ hMk
  have h3k:=h3 M[k]
  have h4k:=h4 M[k]
  have hts:((M.take (k+1)).filter fun i=>decide (cntB (fun j=>F i j && f j) n=0))=((M.take k).filter fun i=>decide (cntB (fun j=>F i j && f j) n=0)) ++ if cntB (fun j=>F M[k] j && f j) n=0 then [M[k]] else []:=by
   rw[List.take_succ_eq_append_getElem hk,List.filter_append]
   congr 1
   by_cases h:cntB (fun j=>F M[k] j && f j) n=0
   ·rw[if_pos h,List.filter_cons_of_pos (by simpa using h)];rfl
   ·rw[if_neg h,List.filter_cons_of_neg (by simpa using h)];rfl
  have hyl:(((M.take k).filter fun i=>decide (cntB (fun j=>F i j && f j) n=0)).map fun j:Nat=>ai (j:Int)).length≤n:=by
   rw[List.length_map]
   have:=List.length_filter_le (fun i=>decide (cntB (fun j=>F i j && f j) n=0)) (M.take k)
   rw[List.length_take] at this
   omega
  rw[hts,List.map_append]
  generalize ((M.take k).filter fun i=>decide (cntB (fun j=>F i j && f j) n=0)).map (fun j:Nat=>ai (j:Int))=ys at *
  generalize wdV n (fun j=>F M[k] j && f j)=WI at *
  generalize wdV n (F M[k])=WM at *
  generalize cntB (fun j=>F M[k] j && f j) n=q at *
  generalize M[k]=x at *
  clear hts h3 h4 hgi
  have hfo:=hA.fo
  simp only[go_sem]
  refine W2 hgk hfo ?_
  repeat(first|(with_reducible refine AWp.seq ?_)|(with_reducible refine AWp.block ?_))
  refine AWp.mix mixed [0,1,2,3,4,5,6,7,8,9,12] (.step 10 (.step 11 .done .done) .done) (by kernel_rfl) ?_;simp only[go_sem,hgM,hlen,hfo]
  refine Sd ?_
  refine GCall.use (.tup [.agg [ai n,.sl 1 WI],ai 0]) (fun _=>⟨At,(h3k).val.use ⟨rfl,rfl⟩⟩) ?_;simp only[go_sem,hgM,hlen,hfo]
  refine Sd ?_
  intro b11 g11
  refine W1 hfo ?_
  refine Sd ?_
  refine(h4k).val.use ?_;simp only[go_sem,hfo]
  by_cases hq:q=0
  ·have hq0:((q:Nat):Int)=0:=by omega
   rw[if_pos hq]
   rcases hA.inv with ⟨e1,rfl,rfl⟩|⟨bq,cq,rfl,rfl⟩
   ·refine W1 hq0 ?_
    intro b' cap'
    intros
    exact⟨_,List.Sublist.refl _,_,[_],rfl,rfl,by rw[e1];exact .row _ [_] _⟩
   ·refine AWp.nodup fun hnd => ?_
    have n1:¬bq=b4:=by simpa using hnd
    have n2:¬b4=bq:=fun e=>n1 e.symm
    refine W3 hq0 n1 n2 ?_
    refine Sd ?_
    intro b' cap'
    intros
    exact⟨_,List.Sublist.refl _,_,[_],rfl,rfl,AppSt.snoc _ _ _ rfl⟩
  ·have hq0:¬((q:Nat):Int)=0:=by omega
   rw[if_neg hq]
   refine W2 hq0 hfo ?_
   exact⟨_,List.Sublist.refl _,_,Ln,rfl,rfl,by simpa using hA⟩
 ·rintro vs L - ⟨v,Ln,rfl,rfl,hA⟩
  rw[List.take_length] at hA
  rcases hA.inv with ⟨e3,rfl,rfl⟩|⟨bq,cq,rfl,rfl⟩
  ·rw[e3] at h5
   have h5:=PC.nilB h5
   simp only[go_sem,List.nil_append]
   refine Wk ?_
   refine Sd ?_
   refine(h5).val.use ?_;simp only[go_sem]
   refine Wk ?_
   refine ret_eq ?_;simp only[go_sem]
  ·generalize (M.filter fun i=>decide (cntB (fun j=>F i j && f j) n=0)).map (fun j:Nat=>ai (j:Int))=ys at *
   refine AWp.perm (L':=[(b4,.row 38 2 [.agg [ai 0,anil]] 1)] ++ [(bq,.row 3 1 ys cq)]) List.perm_append_comm ?_
   refine AWp.viewA (AppSt.row (t:=3) bq ys cq) (j:=8) rfl ?_
   simp only[go_sem]
   refine Wk ?_
   refine Sd ?_
   refine(h5).val.use ?_;simp only[go_sem]
   refine Wk ?_
   refine ret_eq ?_;simp only[go_sem]
theorem ideal_Irreducible (n:Nat) (hn:n≤512) (F:Nat→Nat→Bool) (hirr:∀i,i<n→F i i=false) (htr:∀i j k,i<n→j<n→k<n→F i j=true→F j k=true→F i k=true) (f:Nat→Bool) (hf:idlB n F f=true):PC Proofs.Tryz.prog 18 [aRelN n F,aNs n f] (ab (decide (cntB (frN n F f) n=1))):=by
 have h1:=ideal_Frontier n hn F hirr htr f hf
 have h2:=bits_Count n hn (frN n F f)
 have e:decide (cntB (frN n F f) n=1)=decide (((cntB (frN n F f) n:Nat):Int)=1):=by rw[decide_eq_decide];omega
 rw[e]
 rw[aRelN_eq] at *
 generalize (List.range n).map (fun i=>aNs n (F i))=R at *
 simp only[aNs_wd] at *
 generalize wdV n f=W at *
 generalize wdV n (frN n F f)=V1w at *
 generalize ((cntB (frN n F f) n:Nat):Int)=q at *
 refine PC.enter 20 [.tmp 4] [2,3,5] Proofs.Tryz.func18 rfl rfl rfl rfl rfl (by simp) (AWp.of ?_);simp only[go_sem]
 refine Wk ?_
 refine Sd ?_
 refine(h1).val.use ?_;simp only[go_sem]
 intros
 refine Wk ?_
 refine Sd ?_
 refine Gc h2 ?_
 refine Sd ?_
 refine Wk ?_
 refine ret_eq ?_;simp only[go_sem]
def dirB (ps:List Pr) (l:List Syn) (i j:Nat):Bool:=decide (evE ps i ∈ dirK ps l j)
def tabX (ps:List Pr) (l:List Syn):Nat→Nat→Bool:=warF (off ps ps.length) (dirB ps l)
theorem FamS.fo {tO tI:TypeId} {k n:Nat} {Y:Nat→List AV} {v:AV} {L:AHeap} (h:FamS tO tI k n Y v L):fo v=(True,v):=by
 obtain⟨Lv,V,Ls,_,hA,_⟩:=h
 exact hA.fo
theorem evE_inj {ps:List Pr} {i j:Nat} (hi:i<off ps ps.length) (hj:j<off ps ps.length) (h:evE ps i=evE ps j):i=j:=by
 obtain⟨p,a,hp,ha,rfl⟩:=num_form ps.length (Nat.le_refl _) hi
 obtain⟨q,b,hq,hb,rfl⟩:=num_form ps.length (Nat.le_refl _) hj
 rw[evE_at hp ha,evE_at hq hb,Prod.mk.injEq] at h
 have:p=q:=by omega
 subst this
 omega
theorem off_lt {ps:List Pr} {p i:Nat} (hp:p<ps.length) (hi:i<ps[p].evs.length):off ps p+i<off ps ps.length:=by
 have:=off_le hp;omega
theorem evE_ev {ps:List Pr} {k:Nat} (hk:k<off ps ps.length):EvX ps (evE ps k):=by
 obtain⟨p,i,hp,hi,rfl⟩:=num_form ps.length (Nat.le_refl _) hk
 rw[evE_at hp hi]
 have hn:=nev_get hp
 refine⟨by show (0:Int)≤p;omega,by show (p:Int)<_;omega,by show (1:Int)≤(i:Int)+1;omega,?_⟩
 show (i:Int)+1≤nev ps ((p:Int)).toNat
 rw[Int.toNat_natCast,hn];omega
theorem ev_num {ps:List Pr} {x:Eid} (h:EvX ps x):∃k,k<off ps ps.length∧evE ps k=x:=by
 obtain⟨p,i,hp,hi,rfl⟩:=evx_form h
 rw[nev_get hp] at hi
 exact⟨off ps p+i,off_lt hp hi,evE_at hp hi⟩
theorem dirB_iff {ps:List Pr} (hv:validF ps=true) {l:List Syn} (hl:SynOk ps l) {i j:Nat} : dirB ps l i j=true↔i<off ps ps.length∧j<off ps ps.length∧DirR ps l (evE ps i) (evE ps j):=by
 unfold dirB
 rw[decide_eq_true_eq]
 have hdk:∀ {j},j<off ps ps.length→dirK ps l j=dirX ps l (evE ps j).1.toNat ((evE ps j).2.toNat - 1):=fun {j} hj=>by
  obtain⟨p,a,hp,ha,rfl⟩:=num_form ps.length (Nat.le_refl _) hj
  rw[dirK_at hp ha,evE_at hp ha]
  show _=dirX ps l ((p:Int)).toNat (((a:Int)+1).toNat - 1)
  rw[Int.toNat_natCast,show ((a:Int)+1).toNat - 1=a by omega]
 constructor
 ·intro h
  have hj:j<off ps ps.length:=by
   apply Classical.byContradiction
   intro hj
   have:dirK ps l j=[]:=by
    unfold dirK
    rw[List.getElem?_eq_none (by rw[evIds_length];omega)]
   rw[this] at h;cases h
  have hd:DirR ps l (evE ps i) (evE ps j):=⟨evE_ev hj,by rw[← hdk hj];exact h⟩
  refine⟨?_,hj,hd⟩
  apply Classical.byContradiction
  intro hi
  have h0:evE ps i=(0,0):=by
   unfold evE
   rw[List.getElem?_eq_none (by rw[evIds_length];omega)]
  obtain⟨p,a,hp,ha,hje⟩:=evx_form (evE_ev hj)
  rw[hje] at hd
  obtain⟨_,_,hx⟩:=dir_iff hd
  have:=(dirX_ev hv hl hp ha _ hx).2.2.1
  rw[h0] at this
  have:(1:Int)≤0:=this
  omega
 ·rintro⟨hi,hj,h⟩
  rw[hdk hj];exact h.2
theorem tab_iff {ps:List Pr} (hv:validF ps=true) {l:List Syn} (hl:SynOk ps l) {i j:Nat} (hi:i<off ps ps.length) (hj:j<off ps ps.length):tabX ps l i j=true↔RchX ps l (evE ps i) (evE ps j):=by
 have hD:=@dirB_iff ps hv l hl
 unfold tabX
 rw[war_trans fun a b h=>⟨(hD.1 h).1,(hD.1 h).2.1⟩]
 constructor
 ·intro t
  induction t with
  | single h=>exact .single (hD.1 h).2.2
  | tail t h ih=>exact .tail (ih (hD.1 h).1) (hD.1 h).2.2
 ·intro t
  have key:∀ {x y:Eid},RchX ps l x y→∀j,j<off ps ps.length→y=evE ps j→∀i,i<off ps ps.length→x=evE ps i→Relation.TransGen (fun a b=>dirB ps l a b=true) i j:=fun {x y} t=>by
   induction t with
   | single h =>
    rintro j hj rfl i hi rfl
    exact .single (hD.2 ⟨hi,hj,h⟩)
   | @tail m y t h ih =>
    rintro j hj rfl i hi rfl
    obtain⟨p,a,hp,ha,hje⟩:=evx_form (evE_ev hj)
    have h':=h
    rw[hje] at h'
    obtain⟨_,_,hx⟩:=dir_iff h'
    have hm:EvX ps m:=dirX_ev hv hl hp ha _ hx
    obtain⟨k,hk,hke⟩:=ev_num hm
    refine .tail (ih k hk hke.symm i hi rfl) (hD.2 ⟨hk,hj,by rw[hke];exact h⟩)
  exact key t j hj rfl i hi rfl
theorem tab_ord {ps:List Pr} (hv:validF ps=true) {l:List Syn} (hl:SynOk ps l) (hW:WhlX ps (exF ps l)) {i j:Nat} (hi:i<off ps ps.length) (hj:j<off ps ps.length):tabX ps l i j=ordX ps (exF ps l) i j:=by
 have hG:=exF_gen ps l
 rw[Bool.eq_iff_iff,tab_iff hv hl hi hj]
 unfold ordX
 rw[Bool.and_eq_true,Bool.not_eq_true',decide_eq_false_iff_not,decide_eq_true_eq]
 obtain⟨q,b,hq,hb,rfl⟩:=num_form ps.length (Nat.le_refl _) hj
 have hnq:=nev_get hq
 have hWq:=hW q hq
 have e1:(evE ps (off ps q+b)).1.toNat=q:=by rw[evE_at hq hb];exact Int.toNat_natCast _
 have e2:(evE ps (off ps q+b)).2.toNat=b+1:=by rw[evE_at hq hb];show ((b:Int)+1).toNat=_;omega
 rw[e1,e2]
 have he:=evE_at hq hb
 constructor
 ·intro h
  refine⟨fun e => ?_,?_⟩
  ·subst e;exact whl_acyc hv hl hG hW h
  ·rw[he] at h
   exact rch_entry hv hl hG hq (k:=b+1) (by omega) (by simpa using h)
 ·rintro⟨hne,h⟩
  rw[he]
  rcases entry_rch hv hl hG (evE_ev hi) hq (by omega) (by omega) h with h1|h1
  ·exact absurd (evE_inj hi hj (h1.trans he.symm)) hne
  ·exact h1
theorem ord_irr {ps:List Pr} {l:List Syn} (i:Nat):ordX ps (exF ps l) i i=false:=by unfold ordX;simp
section
variable {ps:List Pr} (hv:validF ps=true) {l:List Syn} (hl:SynOk ps l) (hW:WhlX ps (exF ps l))
include hv hl hW
theorem ord_rch {i j:Nat} (hi:i<off ps ps.length) (hj:j<off ps ps.length):ordX ps (exF ps l) i j=true↔RchX ps l (evE ps i) (evE ps j):=by
 rw[← tab_ord hv hl hW hi hj,tab_iff hv hl hi hj]
theorem ord_trans {i j k:Nat} (hi:i<off ps ps.length) (hj:j<off ps ps.length) (hk:k<off ps ps.length) (h1:ordX ps (exF ps l) i j=true) (h2:ordX ps (exF ps l) j k=true):ordX ps (exF ps l) i k=true :=
 (ord_rch hv hl hW hi hk).2 (((ord_rch hv hl hW hi hj).1 h1).trans ((ord_rch hv hl hW hj hk).1 h2))
end
def hbX (ps:List Pr) (i j:Nat):Bool:=!decide (i=j) && decide ((evE ps i).2≤cAt (ptF ps (evE ps j).1.toNat ((evE ps j).2.toNat - 1)) (evE ps i).1)
theorem hb_ord {ps:List Pr} (hv:validF ps=true) {i j:Nat} (hj:j<off ps ps.length):hbX ps i j=ordX ps (exF ps []) i j:=by
 obtain⟨q,b,hq,hb,e⟩:=evx_form (evE_ev (ps:=ps) hj)
 have h1:=ex_nil_pt hv (nil_whl hv) hq hb
 have e1:((b:Int)+1).toNat - 1=b:=by omega
 have e2:((b:Int)+1).toNat=b+1:=by omega
 unfold hbX ordX
 rw[e]
 simp only[Int.toNat_natCast,e1,e2,h1]
 rfl
end Go.AL
end
