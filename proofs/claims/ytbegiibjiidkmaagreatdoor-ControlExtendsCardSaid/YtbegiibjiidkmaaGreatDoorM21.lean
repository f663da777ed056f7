/- Texts of this claim's proof: WZ3, WZ4. No condition. -/
import Derived.Test.YtbegiibjiidkmaaGreatDoorM20
import Derived.Test.YtbegiibjiidkmaaGreatDoorM17
section
namespace Go.AL
open Go Go.RowKit Proofs.Tryz
set_option maxRecDepth 4000
theorem st1_big {x:Nat}(hx:x<2 ^ 64):st1 6148914691236517205 x<2 ^ 64:=by
 have h1:x / 2 &&& 6148914691236517205<=6148914691236517205:=Nat.and_le_right
 have h2:x &&& 6148914691236517205<=6148914691236517205:=Nat.and_le_right
 unfold st1
 omega
theorem st2_big (x:Nat):st2 3689348814741910323 x<=7378697629483820646:=by
 have h1:x / 4 &&& 3689348814741910323<=3689348814741910323:=Nat.and_le_right
 have h2:x &&& 3689348814741910323<=3689348814741910323:=Nat.and_le_right
 unfold st2
 omega
theorem st3_big (x:Nat):st3 1085102592571150095 x<=1085102592571150095:=Nat.and_le_right
theorem pop_ops {x:Nat}(hx:x<2 ^ 64):∃a1 a2 a3 b1 a4 a5 a6 b2 a7 a8 b3 a9 b4 a10 b5 a11 b6 b7:Int,
  shrK .u64 (x:Nat) 1=a1/\andK .u64 a1 6148914691236517205=a2/\andK .u64 (x:Nat) 6148914691236517205=a3/\IntKind.u64.wrap (a2+a3)=b1 /\
  shrK .u64 b1 2=a4/\andK .u64 a4 3689348814741910323=a5/\andK .u64 b1 3689348814741910323=a6/\IntKind.u64.wrap (a5+a6)=b2 /\
  shrK .u64 b2 4=a7/\IntKind.u64.wrap (a7+b2)=a8/\andK .u64 a8 1085102592571150095=b3 /\
  shrK .u64 b3 8=a9/\IntKind.u64.wrap (b3+a9)=b4/\shrK .u64 b4 16=a10/\IntKind.u64.wrap (b4+a10)=b5/\shrK .u64 b5 32=a11/\IntKind.u64.wrap (b5+a11)=b6 /\
  IntKind.i64.wrap b6=b7/\andK .i64 b7 127=(popN x:Nat):=by
 obtain⟨m1,m2,m3⟩:=msk8
 have hb1:=st1_big hx
 have hb2:=st2_big (st1 6148914691236517205 x)
 have hb3:=st3_big (st2 3689348814741910323 (st1 6148914691236517205 x))
 have hp:=stA_8 x
 unfold stA at hp
 rw[m1,m2,m3] at hp
 have and_n:∀ {a b:Nat},a<2 ^ 64->b<2 ^ 64->andK .u64 (a:Nat) (b:Nat)=((a &&& b:Nat):Int):=fun h g=>and_nat h g
 have hx2:x / 2<2 ^ 64:=by omega
 have e1:shrK .u64 (x:Nat) 1=((x / 2:Nat):Int):=shr_nat (b:=1) (by decide)
 have e2:andK .u64 ((x / 2:Nat):Int) 6148914691236517205=((x / 2 &&& 6148914691236517205:Nat):Int):=and_n hx2 (by decide)
 have e3:andK .u64 (x:Nat) 6148914691236517205=((x &&& 6148914691236517205:Nat):Int):=and_n hx (by decide)
 have e4:IntKind.u64.wrap (((x / 2 &&& 6148914691236517205:Nat):Int)+((x &&& 6148914691236517205:Nat):Int))=((st1 6148914691236517205 x:Nat):Int):=by rw[<- Int.natCast_add];exact wrap_u64n hb1
 generalize st1 6148914691236517205 x=y1 at *
 have f1:shrK .u64 (y1:Nat) 2=((y1 / 4:Nat):Int):=shr_nat (b:=2) (by decide)
 have f2:andK .u64 ((y1 / 4:Nat):Int) 3689348814741910323=((y1 / 4 &&& 3689348814741910323:Nat):Int):=and_n (by omega) (by decide)
 have f3:andK .u64 (y1:Nat) 3689348814741910323=((y1 &&& 3689348814741910323:Nat):Int):=and_n hb1 (by decide)
 have f4:IntKind.u64.wrap (((y1 / 4 &&& 3689348814741910323:Nat):Int)+((y1 &&& 3689348814741910323:Nat):Int))=((st2 3689348814741910323 y1:Nat):Int):=by rw[<- Int.natCast_add];exact wrap_u64n (by unfold st2 at hb2;omega)
 generalize st2 3689348814741910323 y1=y2 at *
 have g1:shrK .u64 (y2:Nat) 4=((y2 / 16:Nat):Int):=shr_nat (b:=4) (by decide)
 have g2:IntKind.u64.wrap (((y2 / 16:Nat):Int)+((y2:Nat):Int))=((y2 / 16+y2:Nat):Int):=by rw[<- Int.natCast_add];exact wrap_u64n (by omega)
 have g3:andK .u64 ((y2 / 16+y2:Nat):Int) 1085102592571150095=((st3 1085102592571150095 y2:Nat):Int):=and_n (by omega) (by decide)
 generalize st3 1085102592571150095 y2=y3 at *
 have i1:shrK .u64 (y3:Nat) 8=((y3 / 256:Nat):Int):=shr_nat (b:=8) (by decide)
 have i2:IntKind.u64.wrap (((y3:Nat):Int)+((y3 / 256:Nat):Int))=((y3+y3 / 256:Nat):Int):=by rw[<- Int.natCast_add];exact wrap_u64n (by omega)
 unfold finN at hp
 simp only at hp
 have hy4:y3+y3 / 256<=1089341274888928025:=by omega
 generalize y3+y3 / 256=y4 at *
 have j1:shrK .u64 (y4:Nat) 16=((y4 / 65536:Nat):Int):=shr_nat (b:=16) (by decide)
 have j2:IntKind.u64.wrap (((y4:Nat):Int)+((y4 / 65536:Nat):Int))=((y4+y4 / 65536:Nat):Int):=by rw[<- Int.natCast_add];exact wrap_u64n (by omega)
 have hy5:y4+y4 / 65536<=1100000000000000000:=by omega
 generalize y4+y4 / 65536=y5 at *
 have k1:shrK .u64 (y5:Nat) 32=((y5 / 4294967296:Nat):Int):=shr_nat (b:=32) (by decide)
 have k2:IntKind.u64.wrap (((y5:Nat):Int)+((y5 / 4294967296:Nat):Int))=((y5+y5 / 4294967296:Nat):Int):=by rw[<- Int.natCast_add];exact wrap_u64n (by omega)
 have k3:IntKind.i64.wrap ((y5+y5 / 4294967296:Nat):Int)=((y5+y5 / 4294967296:Nat):Int):=IntWalk.i64_in _ (by omega)
 have k4:andK .i64 ((y5+y5 / 4294967296:Nat):Int) 127=((popN x:Nat):Int):=by
  rw[<- hp]
  have e:(BitVec.ofInt IntKind.i64.bits ((y5+y5 / 4294967296:Nat):Int) &&& BitVec.ofInt IntKind.i64.bits 127).toNat=(y5+y5 / 4294967296) % 128:=by
   show (BitVec.ofInt 64 ((y5+y5 / 4294967296:Nat):Int) &&& BitVec.ofInt 64 ((127:Nat):Int)).toNat=_
   rw[BitVec.toNat_and,bv_nat (by omega),bv_nat (by decide)]
   exact Nat.and_two_pow_sub_one_eq_mod _ 7
  unfold andK
  rw[e]
  exact IntWalk.i64_in _ (by omega)
 exact⟨_,_,_,_,_,_,_,_,_,_,_,_,_,_,_,_,_,_,e1,e2,e3,e4,f1,f2,f3,f4,g1,g2,g3,i1,i2,j1,j2,k1,k2,k3,k4⟩
theorem bits_OnesCount64 (x:Nat)(hx:x<2 ^ 64):PC prog 139 [au64 x] (ai (popN x:Nat)):=by
 obtain⟨a1,a2,a3,b1,a4,a5,a6,b2,a7,a8,b3,a9,b4,a10,b5,a11,b6,b7,h1,h2,h3,h4,h5,h6,h7,h8,h9,h10,h11,h12,h13,h14,h15,h16,h17,h18,h19⟩:=pop_ops hx
 generalize ((popN x:Nat):Int)=r at *
 generalize ((x:Nat):Int)=x0 at *
 refine PE 35 [.tmp 2] [] func139 ?_;simp only[go_sem]
 repeat(first|((with_reducible refine AWp.ofC ?_ ?_);exact rfl;simp only[go_sem,h1,h2,h3,h4,h5,h6,h7,h8,h9,h10,h11,h12,h13,h14,h15,h16,h17,h18,h19])|((with_reducible refine an ?_ ?_);exact Au))
 exact Rz
def aNs (n:Nat)(f:Nat->Bool):AV:=aBits n (wordsF f n n)
theorem aNs_eq (n:Nat)(f:Nat->Bool):aNs n f = .agg [ai n,.sl 1 ((wordsF f n n).map fun w:Nat=>au64 (w:Int))]:=rfl
theorem wds_len (n:Nat)(f:Nat->Bool):((wordsF f n n).map fun w:Nat=>au64 (w:Int)).length=nW n:=by rw[List.length_map,words_len]
theorem wds_get {n k:Nat}{f:Nat->Bool}(h:k<nW n):((wordsF f n n).map fun w:Nat=>au64 (w:Int)).getD k .any=au64 ((wordOf f k n:Nat):Int):=by
 rw[List.getD_eq_getElem?_getD,List.getElem?_map,words_get h];rfl
theorem bits_Valid (n:Nat)(hn:n<=512)(f:Nat->Bool):PC prog 88 [aNs n f] (ab true):=by
 have hwn:=bits_words n (by omega)
 have hn0:¬(n:Int)<0:=by omega
 have hn1:¬(512:Int)<n:=by omega
 have hln:=wds_len n f
 have hr:=rem64 n
 rw[aNs_eq]
 by_cases h0:n % 64=0
 ·have hr0:(n:Int).tmod 64=0:=by rw[hr,h0];rfl
  have hgx:∃a:AV,(a = .any\/∃w:Int,a=au64 w)/\((wordsF f n n).map fun w:Nat=>au64 (w:Int)).getD (((nW n:Nat):Int) - 1).toNat .any=a:=by
   by_cases hz:n=0
   ·subst hz
    exact⟨.any,.inl rfl,rfl⟩
   ·have hk:n / 64 - 1<nW n:=by unfold nW;omega
    have hi:(((nW n:Nat):Int) - 1).toNat=n / 64 - 1:=by unfold nW;omega
    exact⟨_,.inr ⟨_,rfl⟩,by rw[hi,wds_get hk]⟩
  obtain⟨a,ha,hgx⟩:=hgx
  generalize (wordsF f n n).map (fun w:Nat=>au64 (w:Int))=W at *
  rcases ha with rfl|⟨w,rfl⟩
  ·refine PE 39 [.tmp 2] [1] func88 ?_;simp only[go_sem]
   refine W2 hn0 hn1 ?_
   refine Sq ?_
   refine AWp.mix mixed [0,1,2,3,4,5,6,7,8,9,10,11,12,13,14,15,16] .done (by kernel_rfl) ?_;simp only[go_sem,hn0,hn1]
   refine Sd ?_
   refine GCall.use (ai (nW n:Nat)) (fun _=>⟨At,(hwn).val.use ⟨rfl,rfl⟩⟩) ?_;simp only[go_sem,hn0,hn1,hln]
   refine W5 hn0 hn1 hln hr0 hgx ?_
   exact Rz
  ·refine PE 39 [.tmp 2] [1] func88 ?_;simp only[go_sem]
   refine W2 hn0 hn1 ?_
   refine Sq ?_
   refine AWp.mix mixed [0,1,2,3,4,5,6,7,8,9,10,11,12,13,14,15,16] .done (by kernel_rfl) ?_;simp only[go_sem,hn0,hn1]
   refine Sd ?_
   refine GCall.use (ai (nW n:Nat)) (fun _=>⟨At,(hwn).val.use ⟨rfl,rfl⟩⟩) ?_;simp only[go_sem,hn0,hn1,hln]
   refine W5 hn0 hn1 hln hr0 hgx ?_
   exact Rz
 ·have hnw:nW n=n / 64+1:=by unfold nW;omega
  have hg:=wds_get (n:=n) (f:=f) (k:=n / 64) (by omega)
  have hlt:=word_lt (f:=f) (j:=n)
  have hsh:shrK .u64 ((wordOf f (n / 64) n:Nat):Int) ((n % 64:Nat):Int)=0:=by
   rw[shr_nat (by omega),Nat.div_eq_of_lt hlt];rfl
  have hne:¬((n % 64:Nat):Int)=0:=by omega
  have hnn:0<=((n % 64:Nat):Int):=by omega
  have hidx:(((nW n:Nat):Int) - 1).toNat=n / 64:=by omega
  have hpos:(1:Int)<=(nW n:Nat):=by omega
  have hlt2:n / 64<nW n:=by omega
  generalize (wordsF f n n).map (fun w:Nat=>au64 (w:Int))=W at *
  generalize ((wordOf f (n / 64) n:Nat):Int)=w0 at *
  generalize hrr:((n % 64:Nat):Int)=r at *
  refine PE 39 [.tmp 2] [1] func88 ?_;simp only[go_sem]
  refine W2 hn0 hn1 ?_
  refine Sq ?_
  refine AWp.mix mixed [0,1,2,3,4,5,6,7,8,9,10,11,12,13,14,15,16] .done (by kernel_rfl) ?_;simp only[go_sem,hn0,hn1]
  refine Sd ?_
  refine GCall.use (ai (nW n:Nat)) (fun _=>⟨At,(hwn).val.use ⟨rfl,rfl⟩⟩) ?_;simp only[go_sem,hn0,hn1,hln]
  repeat(first|((with_reducible refine AWp.ofC ?_ ?_);exact rfl;simp only[go_sem,hn0,hn1,hln,hr,hne,hnn,hidx,hg,hsh])|((with_reducible refine an ?_ ?_);exact Au))
  exact Rz
theorem bits_insideN (n:Nat)(f:Nat->Bool)(i:Int):PC prog 83 [aNs n f,ai i] (ab (decide (0<=i) && decide (i<n))):=bits_inside n _ i
theorem bits_has (n:Nat)(hn:n<=512)(f:Nat->Bool)(i:Nat)(hi:i<n):PC prog 92 [aNs n f,ai i] (ab (f i)):=by
 have hk:i / 64<nW n:=by unfold nW;omega
 have hg:=wds_get (n:=n) (f:=f) hk
 have hb:=has_bit (x:=wordOf f (i / 64) n) (b:=i % 64) word_big (by omega)
 rw[bit_word (by omega),show 64 * (i / 64)+i % 64=i by omega,decide_eq_true hi,Bool.true_and] at hb
 have hq:=quo64 i (by omega)
 have hr:=rem64 i
 have hln:=wds_len n f
 have hnn:0<=((i % 64:Nat):Int):=by omega
 have hkk:((i / 64:Nat):Int).toNat=i / 64:=by omega
 rw[aNs_eq]
 generalize (wordsF f n n).map (fun w:Nat=>au64 (w:Int))=W at *
 generalize ((wordOf f (i / 64) n:Nat):Int)=w0 at *
 generalize hkd:i / 64=k at *
 generalize hrr:((i % 64:Nat):Int)=r at *
 rw[<- hb]
 refine PE 16 [.tmp 4] [2] func92 ?_;simp only[go_sem]
 refine W6 hq hr hln hg hkk hnn ?_
 exact Rz
theorem bits_Has (n:Nat)(hn:n<=512)(f:Nat->Bool)(i:Int):PC prog 51 [aNs n f,ai i] (ab (decide (0<=i) && decide (i<n) && f i.toNat)):=by
 have h1:=bits_Valid n hn f
 have h2:=bits_insideN n f i
 rw[aNs_eq] at *
 by_cases hi:0<=i/\i<n
 ·have h3:=bits_has n hn f i.toNat (by omega)
  rw[Int.toNat_of_nonneg hi.1,aNs_eq] at h3
  rw[decide_eq_true hi.1,decide_eq_true hi.2] at h2
  rw[decide_eq_true hi.1,decide_eq_true hi.2,Bool.and_self,Bool.true_and]
  generalize f i.toNat=x at *
  generalize (wordsF f n n).map (fun w:Nat=>au64 (w:Int))=W at *
  refine PE 17 [.tmp 4] [2] func51 ?_;simp only[go_sem]
  refine Wk ?_
  refine Sd ?_
  refine Vu h1 ?_
  refine Sd ?_
  refine Gc h2 ?_
  refine Sd ?_
  refine Gc h3 ?_
  refine Sd ?_
  refine Wk ?_
  exact Rz
 ·have hf:(decide (0<=i) && decide (i<(n:Int)))=false:=by
   by_cases h0:0<=i
   ·rw[decide_eq_false (show ¬i<(n:Int) from fun h=>hi ⟨h0,h⟩),Bool.and_false]
   ·rw[decide_eq_false h0,Bool.false_and]
  rw[hf] at h2
  rw[hf,Bool.false_and]
  generalize (wordsF f n n).map (fun w:Nat=>au64 (w:Int))=W at *
  refine PE 17 [.tmp 4] [2] func51 ?_;simp only[go_sem]
  refine Wk ?_
  refine Sd ?_
  refine Vu h1 ?_
  refine Sd ?_
  refine Gc h2 ?_
  refine GCall.use .any (fun h=>absurd h (by simp)) ?_
  simp only[go_sem]
  refine Sd ?_
  refine Wk ?_
  exact Rz
theorem bits_matching (n:Nat)(hn:n<=512)(f g:Nat->Bool):PC prog 178 [aNs n f,aNs n g] (ab true):=by
 have h1:=bits_Valid n hn f
 have h2:=bits_Valid n hn g
 rw[aNs_eq] at *
 rw[aNs_eq] at *
 generalize (wordsF f n n).map (fun w:Nat=>au64 (w:Int))=W at *
 generalize (wordsF g n n).map (fun w:Nat=>au64 (w:Int))=V at *
 refine PE 18 [.tmp 4] [2,3] func178 ?_;simp only[go_sem]
 refine Wk ?_
 refine Sd ?_
 refine Vu h1 ?_
 refine Sd ?_
 refine Gc h2 ?_
 refine Sd ?_
 refine Wk ?_
 exact Rz
theorem bits_copied (n:Nat)(ws:List AV)(hl:ws.length<=1000000)(hw:∀w ∈ ws,∃z:Int,w=au64 z):MCalls prog 179 [.agg [ai n,.sl 1 ws]] [] fun r L=>∃b cap,r = .agg [ai n,.ls b 1 0 ws.length cap]/\L=[(b,.row 120 1 ws cap)]:=by
 refine MCalls.enter' 17 [.cell 2 110] [1,3] func179 rfl rfl rfl rfl rfl (by simp) (AWp.of ?_);simp only[go_sem]
 refine Wk ?_
 intro b2
 refine AWp.cut [1,2,3] (fun vs L=>∃b,(¬b=b2/\¬b2=b)/\L=[(b,.row 120 1 (List.replicate ws.length (au64 0)) ws.length),(b2,.row 110 2 [.agg [ai 0,anil]] 1)]/\vs=[.rp 2 [.agg [ai n,.sl 1 ws]] 0 0,.lp b2 2 0 0,.rp 2 [.agg [ai n,.ls b 1 0 ws.length ws.length]] 0 0]) ?_ ?_
 ·refine Sq ?_
  refine AWp.mix mixed [0,1,2,3,4] (.step 5 (.step 6 (.step 7 (.step 8 .done .done) .done) (.step 7 (.step 6 (.step 8 .done .done) .done) .done)) (.step 7 (.step 5 (.step 6 (.step 8 .done .done) .done) .done) .done)) (by kernel_rfl) ?_;simp only[go_sem]
  refine Sd ?_
  repeat' (first|(with_reducible refine And.intro ?_ ?_)|intro _)
  all_goals first|omega|exact⟨_,.refl _,_,⟨by omega,by omega⟩,rfl,rfl⟩|skip
  all_goals rename_i b h1 b1 h2 h3
  all_goals have n1:¬b=b1:=by omega
  all_goals simp only[go_sem,n1]
  all_goals exact⟨_,.refl _,_,⟨by omega,by omega⟩,rfl,rfl⟩
 ·rintro vs L - ⟨b,⟨n1,n2⟩,rfl,rfl⟩
  simp only[go_sem,n1,n2]
  refine Wk ?_
  refine⟨by rw[List.length_replicate];exact Nat.le_refl _,?_⟩
  have e1:ws.take (min ws.length ws.length)=ws:=by rw[Nat.min_self,List.take_length]
  have e2:(List.replicate ws.length (au64 0)).drop ws.length=[]:=List.drop_of_length_le (by rw[List.length_replicate];exact Nat.le_refl _)
  rw[e1,e2,List.append_nil]
  refine W2 n1 n2 ?_
  refine ret_sub [(b,.row 120 1 ws ws.length)] (.cons_cons _ (List.nil_sublist _)) ?_
  simp only[go_sem,n1,n2]
  exact⟨_,_,rfl,rfl⟩
def cmbW (f h:Nat->Bool)(n k:Nat):List AV:=(List.range (nW n)).map fun w=>if w<k then au64 ((wordOf h w n:Nat):Int) else au64 ((wordOf f w n:Nat):Int)
theorem cmb_len (f h:Nat->Bool)(n k:Nat):(cmbW f h n k).length=nW n:=by simp [cmbW]
theorem cmb_zero (f h:Nat->Bool)(n:Nat):cmbW f h n 0=(wordsF f n n).map fun w:Nat=>au64 (w:Int):=by
 unfold cmbW wordsF
 rw[List.map_map]
 exact List.map_congr_left fun w _=>by rw[if_neg (by omega)];rfl
theorem cmb_full (f h:Nat->Bool)(n:Nat):cmbW f h n (nW n)=(wordsF h n n).map fun w:Nat=>au64 (w:Int):=by
 unfold cmbW wordsF
 rw[List.map_map]
 exact List.map_congr_left fun w hw=>by rw[if_pos (List.mem_range.1 hw)];rfl
theorem cmb_get {f h:Nat->Bool}{n k:Nat}(hk:k<nW n):(cmbW f h n k).getD k .any=au64 ((wordOf f k n:Nat):Int):=by
 unfold cmbW
 rw[map_range_getD hk,if_neg (by omega)]
theorem cmb_elem {f h:Nat->Bool}{n k i:Nat}(hi:i<(cmbW f h n k).length):(cmbW f h n k)[i]=if i<k then au64 ((wordOf h i n:Nat):Int) else au64 ((wordOf f i n:Nat):Int):=by simp [cmbW]
theorem cmb_set {f h:Nat->Bool}{n k:Nat}(hk:k<nW n):(cmbW f h n k).set k (au64 ((wordOf h k n:Nat):Int))=cmbW f h n (k+1):=by
 refine List.ext_getElem (by rw[List.length_set,cmb_len,cmb_len]) fun i h1 h2=>?_
 rw[List.getElem_set,cmb_elem,cmb_elem]
 by_cases e:k=i
 ·subst e;rw[if_pos rfl,if_pos (by omega)]
 ·rw[if_neg e]
  by_cases h:i<k
  ·rw[if_pos h,if_pos (by omega)]
  ·rw[if_neg h,if_neg (by omega)]
theorem bits_combined (n:Nat)(hn:n<=512)(f g h:Nat->Bool)(F:AV)(hF:fo F=(True,F))(op:Nat->Nat->Nat)(hop:∀w,op (wordOf f w n) (wordOf g w n)=wordOf h w n)
  (hFo:∀x y:Nat,x<2 ^ 64->y<2 ^ 64->PV prog F [au64 (x:Nat),au64 (y:Nat)] (au64 (op x y:Nat))) :
  PC prog 137 [aNs n f,aNs n g,F] (.tup [aNs n h,ai 0]):=by
 have h1:=bits_matching n hn f g
 have h2:=bits_copied n ((wordsF f n n).map fun w:Nat=>au64 (w:Int)) (by rw[wds_len];unfold nW;omega) (fun w hw=>by obtain⟨x,_,rfl⟩:=List.mem_map.1 hw;exact⟨_,rfl⟩)
 rw[wds_len] at h2
 have hlg:=wds_len n g
 have hgg:=fun k (hk:k<nW n)=>wds_get (n:=n) (f:=g) hk
 have hnW:nW n<=1000000:=by unfold nW;omega
 have hz:=cmb_zero f h n
 rw[aNs_eq n f,aNs_eq n g] at *
 generalize hV:(wordsF g n n).map (fun w:Nat=>au64 (w:Int))=V at *
 refine PE 40 [.cell 6 110,.tmp 7] [3,4,8] func137 ?_;simp only[go_sem]
 refine W1 hF ?_
 intro b6
 refine W1 hF ?_
 refine Sd ?_
 refine Vu h1 ?_
 refine W1 hF ?_
 refine(MVal.frame (Lm:=[]) (Lr:=[(b6,.row 110 2 [.agg [ai 0,anil]] 1)]) h2.val).mono ?_
 rintro r L ⟨L1,rfl,b,cap,rfl,rfl⟩
 rw[<- hz]
 simp only[go_sem,List.cons_append,List.nil_append]
 refine W2 hF hlg ?_
 intro b8 _ _
 refine AWp.nodup fun hnd=>?_
 have n1:¬b=b6:=by simpa using hnd
 have n2:¬b6=b:=fun e=>n1 e.symm
 refine W2 hF hlg ?_
 refine AWp.range' (nW n) [] [2,6,8,19,20] (fun k vs L=>vs=[]/\L=[(b,.row 120 1 (cmbW f h n k) cap),(b6,.row 110 2 [.agg [ai 0,anil]] 1)]) (by omega) rfl rfl rfl ⟨rfl,rfl⟩ ?_ ?_
 ·rintro k vs L hk - ⟨rfl,rfl⟩
  have hgk:=hgg k hk
  have hck:=cmb_get (f:=f) (h:=h) hk
  have hcl:=cmb_len f h n k
  have hst:=cmb_set (f:=f) (h:=h) hk
  have hfo:=hFo (wordOf f k n) (wordOf g k n) word_big word_big
  rw[hop] at hfo
  rw[<- hst]
  generalize cmbW f h n k=CW at *
  simp only[go_sem]
  refine W2 hF hgk ?_
  refine Sq ?_
  refine AWp.mix mixed [0,1,2,3,4,5,6,7,9] (.step 8 (.step 10 (.step 11 (.step 12 .done .done) .done) .done) .done) (by kernel_rfl) ?_;simp only[go_sem,hF,hgk,hck,hcl]
  refine Sd ?_
  refine Sd ?_
  refine(hfo).use ?_;simp only[go_sem,hcl,hck]
  refine Sd ?_
  refine W2 hcl hck ?_
  exact⟨_,.refl _,rfl⟩
 ·rintro vs L - ⟨rfl,rfl⟩
  rw[cmb_full]
  have hlh:=wds_len n h
  rw[aNs_eq]
  generalize (wordsF h n n).map (fun w:Nat=>au64 (w:Int))=W at *
  simp only[go_sem,n1,n2]
  refine W3 n1 n2 hF ?_
  refine ret_view [true,true] ?_;simp only[go_sem]
  simp only[go_sem,n1,n2]
  exact .mkTup (Vws.cons (.mkAgg (Vws.cons (.refl _) (Vws.cons (Vw.ofLs (t:=120) (cap:=cap) (if_pos rfl) hlh.symm) .nil))) (Vws.refl _))
theorem bits_Minus1 (x y:Nat):PC prog 138 [au64 (x:Nat),au64 (y:Nat)] (au64 (mnsN x y:Nat)):=by
 have h:=mns_nat (x:=x) (y:=y)
 generalize ((x:Nat):Int)=a at *
 generalize ((y:Nat):Int)=b at *
 refine PE 8 [.tmp 4] [] func138 ?_;simp only[go_sem]
 refine W1 h ?_
 exact Rz
theorem bits_Minus (n:Nat)(hn:n<=512)(f g:Nat->Bool):PC prog 90 [aNs n f,aNs n g] (.tup [aNs n fun i=>f i && !g i,ai 0]):=by
 have h1:=bits_combined n hn f g (fun i=>f i && !g i) (.v (.func (.func 138) #[] #[])) rfl mnsN (fun w=>word_mns) fun x y _ _=>(bits_Minus1 x y).val
 rw[aNs_eq n f,aNs_eq n g,aNs_eq] at *
 generalize (wordsF f n n).map (fun w:Nat=>au64 (w:Int))=V at *
 generalize (wordsF g n n).map (fun w:Nat=>au64 (w:Int))=W at *
 generalize (wordsF (fun i=>f i && !g i) n n).map (fun w:Nat=>au64 (w:Int))=X at *
 refine PE 11 [.cell 4 110,.tmp 5] [2,3] func90 ?_;simp only[go_sem]
 intro b4
 refine Wk ?_
 refine Sd ?_
 refine Vu h1 ?_
 refine Wk ?_
 exact Rz
theorem bits_Count (n:Nat)(hn:n<=512)(f:Nat->Bool):PC prog 91 [aNs n f] (ai (cntB f n:Nat)):=by
 have h1:=bits_Valid n hn f
 have hln:=wds_len n f
 have hg:=fun k (hk:k<nW n)=>wds_get (n:=n) (f:=f) hk
 have hnW:nW n<=1000000:=by unfold nW;omega
 have hall:((List.range (nW n)).map fun w=>popN (wordOf f w n)).sum=cntB f n:=by rw[pop_words,pop_all]
 have hp:=fun k=>bits_OnesCount64 (wordOf f k n) word_big
 have hle:∀k,((List.range k).map fun w=>popN (wordOf f w n)).sum<=64 * k:=fun k=>by rw[pop_words];exact cntB_le _ _
 rw[<- hall,aNs_eq] at *
 generalize (wordsF f n n).map (fun w:Nat=>au64 (w:Int))=W at *
 refine PE 22 [.tmp 2] [1] func91 ?_;simp only[go_sem]
 refine Wk ?_
 refine Sd ?_
 refine Vu h1 ?_
 refine W1 hln ?_
 refine AWp.range' (nW n) [3] [10,11] (fun k vs L=>L=[]/\vs=[ai (((List.range k).map fun w=>popN (wordOf f w n)).sum:Nat)]) (by omega) rfl rfl rfl ⟨rfl,rfl⟩ ?_ ?_
 ·rintro k vs L hk - ⟨rfl,rfl⟩
  have hgk:=hg k hk
  have hpk:=hp k
  have hs:((List.range (k+1)).map fun w=>popN (wordOf f w n)).sum=((List.range k).map fun w=>popN (wordOf f w n)).sum+popN (wordOf f k n):=by
   rw[List.range_succ,List.map_append,List.sum_append,List.map_singleton,List.sum_singleton]
  have h8:=hle (k+1)
  rw[hs] at h8 ⊢
  generalize ((List.range k).map fun w=>popN (wordOf f w n)).sum=s at *
  generalize popN (wordOf f k n)=q at *
  have hsm:((s:Nat):Int)+(q:Nat)=((s+q:Nat):Int):=by omega
  generalize ((wordOf f k n:Nat):Int)=w0 at *
  simp only[go_sem]
  refine W1 hgk ?_
  refine Sd ?_
  refine Vu hpk ?_
  refine W1 hsm ?_
  refine Sd ?_
  exact⟨_,.refl _,rfl,rfl⟩
 ·rintro vs L - ⟨rfl,rfl⟩
  simp only[go_sem]
  refine Wk ?_
  exact Rz
def subN (n:Nat)(f g:Nat->Bool):Bool:=(List.range n).all fun i=>!f i || g i
theorem subN_cnt (n:Nat)(f g:Nat->Bool):decide (((cntB (fun i=>f i && !g i) n:Nat):Int)=0)=subN n f g:=by
 unfold subN
 rw[Bool.eq_iff_iff,decide_eq_true_iff,List.all_eq_true]
 constructor
 ·intro h i hi
  have:=cntB_zero.1 (show cntB (fun i=>f i && !g i) n=0 by omega) i (List.mem_range.1 hi)
  cases hf:f i <;> cases hgi:g i <;> simp_all
 ·intro h
  have:cntB (fun i=>f i && !g i) n=0:=cntB_zero.2 fun i hi=>by
   have:=h i (List.mem_range.2 hi)
   cases hf:f i <;> cases hgi:g i <;> simp_all
  omega
theorem bits_Subset (n:Nat)(hn:n<=512)(f g:Nat->Bool):PC prog 49 [aNs n f,aNs n g] (ab (subN n f g)):=by
 have h1:=bits_Minus n hn f g
 have h2:=bits_Count n hn fun i=>f i && !g i
 have h3:=subN_cnt n f g
 rw[aNs_eq n f,aNs_eq n g,aNs_eq] at h1
 rw[aNs_eq] at h2
 rw[aNs_eq,aNs_eq,<- h3]
 generalize (wordsF f n n).map (fun w:Nat=>au64 (w:Int))=V at *
 generalize (wordsF g n n).map (fun w:Nat=>au64 (w:Int))=W at *
 generalize (wordsF (fun i=>f i && !g i) n n).map (fun w:Nat=>au64 (w:Int))=X at *
 generalize ((cntB (fun i=>f i && !g i) n:Nat):Int)=c at *
 refine PE 20 [.tmp 4] [2,3,5] func49 ?_;simp only[go_sem]
 refine Wk ?_
 refine Sd ?_
 refine Vu h1 ?_
 intros
 refine Wk ?_
 refine Sd ?_
 refine Gc h2 ?_
 refine Sd ?_
 refine Wk ?_
 exact Rz
end Go.AL
end
