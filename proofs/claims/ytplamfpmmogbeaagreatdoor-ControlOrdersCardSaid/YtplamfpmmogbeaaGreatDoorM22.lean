/- Texts of this claim's proof: WY28, WY29, WY18, WY10, WY17. No condition. -/
import Derived.Test.YtplamfpmmogbeaaGreatDoorM21
import Derived.Test.YtplamfpmmogbeaaGreatDoorM12
import Derived.Test.YtplamfpmmogbeaaGreatDoorM13
import Derived.Test.YtplamfpmmogbeaaGreatDoorM14
import Derived.Test.YtplamfpmmogbeaaGreatDoorM20
section
namespace Go.AL
open Go Go.RowKit
set_option maxRecDepth 4000
theorem any_take {α:Type} {p:α→Bool} {l:List α} (h:∀i (hi:i<l.length),p l[i]=false):l.any p=false:=by
 rw[List.any_eq_false]
 intro x hx
 obtain⟨i,hi,rfl⟩:=List.getElem_of_mem hx
 rw[h i hi];decide
set_option maxHeartbeats 1000000 in
theorem ref44_Syncs (ps:List Pr) (hs:Sm ps) (hv:validF ps=true) (l:List Syn) (hll:l.length≤1000000):PC Proofs.Tryz.prog 13 [aTr ps,.sl 4 (l.map aSyn)] (ai (syE ps l)):=by
 have hE:syE ps l=if 1000<l.length then 5 else if l.any (badSy ps)=true then 2 else if lftX ps (exF ps l)=0 then 0 else 10:=rfl
 have hlm:(l.map aSyn).length=l.length:=List.length_map _
 have hN:=valid_off hv
 by_cases hl:1000<l.length
 ·rw[if_pos hl] at hE
  have hli:(1000:Int)<l.length:=by omega
  rw[hE]
  refine PC.enter 51 [.tmp 4] [2] Proofs.Tryz.func13 rfl rfl rfl rfl rfl (by simp) (AWp.of ?_);simp only[go_sem]
  refine W2 hlm hli ?_
  refine ret_eq ?_;simp only[go_sem]
 rw[if_neg hl] at hE
 have hli:¬(1000:Int)<l.length:=by omega
 have hev:=fun x=>ref44_event ps hs x
 have hgS:∀i (hi:i<l.length),(l.map aSyn).getD i .any=aSyn l[i]:=fun i hi=>getD_map hi
 have htab:l.any (badSy ps)=false→PC Proofs.Tryz.prog 43 [aTr ps,.sl 4 (l.map aSyn)] (tabV (off ps ps.length) (tabX ps l)):=fun h=>ref44_table ps hs hv l (syn_bad.1 h) hll
 have hdg:l.any (badSy ps)=false→_:=fun h=>tab_diag hv (syn_bad.1 h)
 generalize l.map aSyn=SL at *
 refine PC.enter 51 [.tmp 4] [2] Proofs.Tryz.func13 rfl rfl rfl rfl rfl (by simp) (AWp.of ?_);simp only[go_sem]
 refine W2 hlm hli ?_
 refine AWp.block (AWp.count 5 l.length [] [1,2] (fun k vs L=>L=[]∧∀i (h:i<l.length),i<k→badSy ps l[i]=false) rfl rfl ⟨rfl,fun i _ h=>by omega⟩ ?_)
 rintro k vs L hk - ⟨rfl,hI⟩
 simp only[go_sem]
 refine W1 hlm ?_
 refine⟨fun h1 => ?_,fun h1 => ?_⟩
 ·have hkl:k<l.length:=by omega
  have hg:=hgS k hkl
  have hbs:badSy ps l[k]=(!eidOk ps l[k].1 || !eidOk ps l[k].2):=rfl
  have hin:=List.getElem_mem hkl
  have hany:badSy ps l[k]=true→l.any (badSy ps)=true:=fun h=>List.any_eq_true.2 ⟨_,hin,h⟩
  have hstep:badSy ps l[k]=false→∀i (h:i<l.length),i<k+1→badSy ps l[i]=false:=fun h i hi hik=>by
   by_cases e:i=k
   ·subst e;exact h
   ·exact hI i hi (by omega)
  generalize l[k]=s at *
  obtain⟨⟨a,b⟩,c,d⟩:=s
  have c1:=hev (a,b)
  have c2:=hev (c,d)
  have hg:SL.getD k .any = .agg [ai a,ai b,ai c,ai d]:=hg
  change PC _ _ [_,.agg [ai a,ai b]] _ at c1
  change PC _ _ [_,.agg [ai c,ai d]] _ at c2
  change badSy ps ((a,b),(c,d))=(!eidOk ps (a,b) || !eidOk ps (c,d)) at hbs
  generalize eidOk ps (a,b)=x at *
  generalize eidOk ps (c,d)=y at *
  rw[hbs] at hany hstep
  repeat(first|(with_reducible refine AWp.seq ?_)|(with_reducible refine AWp.block ?_))
  refine AWp.read mixed [0,1,2,3,4,5,6,7,8,9,10,11,12,13,14,15,16,17] (by kernel_rfl) ?_;simp only[go_sem,hg,hlm]
  refine Sd ?_
  refine GCall.use (ab x) (fun _=>⟨At,(c1).val.use ⟨rfl,rfl⟩⟩) ?_;simp only[go_sem,hg,hlm]
  refine Sd ?_
  refine GCall.use (ab y) (fun _=>⟨At,(c2).val.use ⟨rfl,rfl⟩⟩) ?_;simp only[go_sem]
  refine Sd ?_
  cases hc:(!x || !y) with
  | true =>
   refine W1 hc ?_
   refine ret_eq ?_;simp only[go_sem]
   rw[hE,if_pos (hany hc)]
  | false =>
   refine W1 hc ?_
   exact⟨_,List.Sublist.refl _,rfl,hstep hc⟩
 ·have:k=l.length:=by omega
  subst this
  have hb:l.any (badSy ps)=false:=any_take fun i hi=>hI i hi hi
  have h2:=htab hb
  have h3:=hdg hb
  rw[hb,if_neg (by decide)] at hE
  generalize syE ps l=e at *
  generalize off ps ps.length=N at *
  have hTV:tabV N (tabX ps l) = .sl 1 ((List.range N).map fun i => .sl 1 (bRow N (tabX ps l i))):=rfl
  rw[hTV] at h2
  have hgT:∀i,i<N→((List.range N).map fun i=>AV.sl 1 (bRow N (tabX ps l i))).getD i .any = .sl 1 (bRow N (tabX ps l i)):=fun i hi=>map_range_getD hi _
  have hlT:((List.range N).map fun i=>AV.sl 1 (bRow N (tabX ps l i))).length=N:=by simp
  generalize (List.range N).map (fun i=>AV.sl 1 (bRow N (tabX ps l i)))=TT at *
  refine W1 hlm ?_
  refine Sd ?_
  refine(h2).val.use ?_;simp only[go_sem]
  refine W1 hlm ?_
  refine AWp.block (AWp.count 7 N [] [6] (fun k vs L=>L=[]∧∀i,i<k→tabX ps l i i=false) rfl rfl ⟨rfl,fun i h=>by omega⟩ ?_)
  rintro k vs L hk - ⟨rfl,hJ⟩
  simp only[go_sem]
  refine W1 hlT ?_
  refine⟨fun h4 => ?_,fun h4 => ?_⟩
  ·have hkN:k<N:=by omega
   have hgk:=hgT k hkN
   have hbl:=bRow_len (n:=N) (f:=tabX ps l k)
   have hbg:=bRow_get (n:=N) (f:=tabX ps l k) hkN
   generalize bRow N (tabX ps l k)=row at *
   cases hc:tabX ps l k k with
   | true =>
    rw[hc] at hbg
    have hex:((List.range N).any fun i=>tabX ps l i i)=true:=List.any_eq_true.2 ⟨k,List.mem_range.2 hkN,hc⟩
    rw[hex] at h3
    have h0:¬lftX ps (exF ps l)=0:=by simpa using h3.symm
    rw[if_neg h0] at hE
    refine W4 hgk hlT hbl hbg ?_
    refine ret_eq ?_;simp only[go_sem]
    rw[hE]
   | false =>
    rw[hc] at hbg
    refine W4 hgk hlT hbl hbg ?_
    refine⟨_,List.Sublist.refl _,rfl,fun i hi => ?_⟩
    by_cases e:i=k
    ·subst e;exact hc
    ·exact hJ i (by omega)
  ·have:k=N:=by omega
   subst this
   have hex:((List.range k).any fun i=>tabX ps l i i)=false:=by
    rw[List.any_eq_false]
    intro i hi
    rw[hJ i (List.mem_range.1 hi)];decide
   rw[hex] at h3
   have h0:lftX ps (exF ps l)=0:=by simpa using h3.symm
   rw[if_pos h0] at hE
   refine W1 hlT ?_
   refine ret_eq ?_;simp only[go_sem]
   rw[hE]
noncomputable def ordQ (ps:List Pr) (l:List Syn):Int:=if validF ps=false then 1 else syE ps l
noncomputable def aOrdA (ps:List Pr) (l:List Syn):AV:=.tup [aRelR (off ps ps.length) (if ordQ ps l=0 then relX ps (exF ps l) else []),ai (ordQ ps l)]
theorem aOrdA_bad {ps:List Pr} {l:List Syn} (h:validF ps=false):aOrdA ps l = .tup [aRelR (off ps ps.length) [],ai 1]:=by
 have hq:ordQ ps l=1:=by unfold ordQ;rw[if_pos h]
 unfold aOrdA
 rw[hq,if_neg (by decide)]
theorem aOrdA_ok {ps:List Pr} {l:List Syn} (h:validF ps=true):aOrdA ps l = .tup [aRelR (off ps ps.length) (if syE ps l=0 then relX ps (exF ps l) else []),ai (syE ps l)]:=by
 have hq:ordQ ps l=syE ps l:=by unfold ordQ;rw[if_neg (by rw[h];decide)]
 unfold aOrdA
 rw[hq]
theorem syE_zero {ps:List Pr} {l:List Syn} (h:syE ps l=0):l.length≤1000∧SynOk ps l∧lftX ps (exF ps l)=0:=by
 unfold syE at h
 split at h
 ·cases h
 ·split at h
  ·cases h
  ·split at h
   ·rename_i h1 h2 h3
    exact⟨by omega,syn_bad.1 (by simpa using h2),h3⟩
   ·cases h
theorem control_OrderNo {ps:List Pr} {l:List Syn} {e:Int} (he:e ≠ 0) (h1:PC Proofs.Tryz.prog 46 [aTr ps,.sl 4 (l.map aSyn)] (.tup [.v (.pointer none),ai e])) (n:Nat):PC Proofs.Tryz.prog 15 [aTr ps,.sl 4 (l.map aSyn)] (.tup [aRelR n [],ai e]):=by
 refine PC.enter 109 [.cell 4 45,.tmp 5] [2,13,16,17,88,104] Proofs.Tryz.func15 rfl rfl rfl rfl rfl (by simp) (AWp.of ?_);simp only[go_sem]
 intro b4
 refine Wk ?_
 refine Sd ?_
 refine(h1).val.use ?_;simp only[go_sem]
 refine W1 he ?_
 refine ret_view [true] ?_;simp only[go_sem]
 exact .mkTup (Vws.cons (Vw.mkAgg (Vws.cons (.nil 2) .nil)) (Vws.refl _))
theorem control_Order (ps:List Pr) (hs:Sm ps) (l:List Syn) (hll:l.length≤1000000):PC Proofs.Tryz.prog 15 [aTr ps,.sl 4 (l.map aSyn)] (aOrdA ps l):=by
 have h1:=control_check ps hs l hll
 cases hv:validF ps with
 | false =>
  have:aChk ps l = .tup [.v (.pointer none),ai 1]:=by unfold aChk;rw[if_pos hv]
  rw[this] at h1
  rw[aOrdA_bad hv]
  exact control_OrderNo (by decide) h1 _
 | true =>
  rw[aOrdA_ok hv]
  by_cases h0:syE ps l=0
  ·obtain⟨_,h2,h3⟩:=syE_zero h0
   have hG:=exF_gen ps l
   rw[if_pos h0,h0]
   exact control_OrderOk ps hs hv l hll h0 (tab_ok hv h2 hG ((lft_whl hG).1 h3))
  ·have:aChk ps l = .tup [.v (.pointer none),ai (syE ps l)]:=by unfold aChk;rw[if_neg (by rw[hv];decide),if_neg h0]
   rw[this] at h1
   rw[if_neg h0]
   exact control_OrderNo h0 h1 _
theorem control_Order_bad {ps:List Pr} (hva:PC Proofs.Tryz.prog 61 [aTr ps] (ab false)) (l:List Syn) (n:Nat):PC Proofs.Tryz.prog 15 [aTr ps,.sl 4 (l.map aSyn)] (.tup [aRelR n [],ai 1]):=control_OrderNo (by decide) (control_check_bad hva l) n
theorem ref44_Order_bad {ps:List Pr} (hva:PC Proofs.Tryz.prog 37 [aTr ps] (ab false)) (l:List Syn) (n:Nat):PC Proofs.Tryz.prog 16 [aTr ps,.sl 4 (l.map aSyn)] (.tup [aRelR n [],ai 1]):=by
 refine PC.enter 74 [.cell 4 45,.tmp 5] [2,11,70] Proofs.Tryz.func16 rfl rfl rfl rfl rfl (by simp) (AWp.of ?_);simp only[go_sem]
 intro b4
 refine Wk ?_
 refine Sd ?_
 refine(hva).val.use ?_;simp only[go_sem]
 refine Wk ?_
 refine ret_view [true] ?_;simp only[go_sem]
 exact .mkTup (Vws.cons (Vw.mkAgg (Vws.cons (.nil 2) .nil)) (Vws.refl _))
set_option maxHeartbeats 1000000 in
theorem ref44_Order (ps:List Pr) (hs:Sm ps) (l:List Syn) (hll:l.length≤1000000):PC Proofs.Tryz.prog 16 [aTr ps,.sl 4 (l.map aSyn)] (aOrdA ps l):=by
 have hva:=ref12_Valid ps hs
 cases hv:validF ps with
 | false =>
  rw[hv] at hva
  rw[aOrdA_bad hv]
  exact ref44_Order_bad hva l _
 | true =>
 rw[hv] at hva
 rw[aOrdA_ok hv]
 have h1:=ref44_Syncs ps hs hv l hll
 have hN:=valid_off hv
 by_cases h0:syE ps l=0
 ·obtain⟨_,h2,h3⟩:=syE_zero h0
  have hG:=exF_gen ps l
  have hW:=(lft_whl hG).1 h3
  have h4:=ref44_table ps hs hv l h2 hll
  rw[if_pos h0,h0]
  rw[h0] at h1
  have hTV:tabV (off ps ps.length) (tabX ps l) = .sl 1 ((List.range (off ps ps.length)).map fun i => .sl 1 (bRow (off ps ps.length) (tabX ps l i))):=rfl
  rw[hTV] at h4
  have hgT:∀i,i<off ps ps.length→((List.range (off ps ps.length)).map fun i=>AV.sl 1 (bRow (off ps ps.length) (tabX ps l i))).getD i .any = .sl 1 (bRow (off ps ps.length) (tabX ps l i)):=fun i hi=>map_range_getD hi _
  have hlT:((List.range (off ps ps.length)).map fun i=>AV.sl 1 (bRow (off ps ps.length) (tabX ps l i))).length=off ps ps.length:=by simp
  have hrl:(relX ps (exF ps l)).length=off ps ps.length:=by simp [relX]
  have hst:∀i,i<off ps ps.length→(relX ps (exF ps l)).take (i+1)=(relX ps (exF ps l)).take i ++ [wordsF (tabX ps l i) (off ps ps.length) (off ps ps.length)]:=fun i hi=>by
   rw[relX_take ps _ hi,words_congr fun j hj=>(tab_ord hv h2 hW hi hj).symm]
  clear hG hW h2 h3 hTV
  generalize (List.range (off ps ps.length)).map (fun i=>AV.sl 1 (bRow (off ps ps.length) (tabX ps l i)))=TT at *
  generalize off ps ps.length=N at *
  have hm:IntKind.i64.wrap (((N:Int)+63).tdiv 64)=(nW N:Nat):=by
   have:((N:Int)+63).tdiv 64=((nW N:Nat):Int):=by unfold nW;rfl
   rw[this]
   exact IntWalk.i64_in _ (by unfold nW;omega)
  have hnW:nW N≤1000000:=by unfold nW;omega
  refine PC.enter 74 [.cell 4 45,.tmp 5] [2,11,70] Proofs.Tryz.func16 rfl rfl rfl rfl rfl (by simp) (AWp.of ?_);simp only[go_sem]
  intro b4
  refine Wk ?_
  refine Sd ?_
  refine(hva).val.use ?_;simp only[go_sem]
  refine Wk ?_
  refine Sd ?_
  refine(h1).val.use ?_;simp only[go_sem]
  refine Wk ?_
  refine Sd ?_
  refine(h4).val.use ?_;simp only[go_sem]
  refine W1 hlT ?_
  intro b9 g9
  have n1:¬b9=b4:=by omega
  have n2:¬b4=b9:=by omega
  refine W2 n1 n2 ?_
  refine AWp.block (AWp.count 10 N [] [4,7,8,9] (fun i vs L=>relS b9 b4 N ((relX ps (exF ps l)).take i) L) rfl rfl (.inl ⟨rfl,rfl⟩) ?_)
  rintro i vs L hi - hL
  simp only[go_sem]
  refine Wk ?_
  refine⟨fun h => ?_,fun h => ?_⟩
  ·have hiN:i<N:=by omega
   have hgi:=hgT i hiN
   have hst:=hst i hiN
   have htl:((relX ps (exF ps l)).take i).length=i:=by rw[List.length_take];omega
   have hbl:=bRow_len (n:=N) (f:=tabX ps l i)
   have hbg:=fun j (hj:j<N)=>bRow_get (n:=N) (f:=tabX ps l i) hj
   have hw0:=words_zero (tabX ps l i) N
   generalize tabX ps l i=f at *
   generalize bRow N f=row at *
   refine W1 hm ?_
   intro bw gw
   refine W1 hm ?_
   intro b11 g5 g6
   clear g5 g6
   refine Wk ?_
   refine AWp.block (AWp.count 12 N [] [4,7,8,9,10,11] (fun j vs L'=>L'=(bw,.row 114 1 ((wordsF f N j).map fun w:Nat=>au64 (w:Int)) (nW N)) :: L) rfl rfl (by rw[hw0,List.map_replicate];rfl) ?_)
   rintro j vs L' hj - rfl
   simp only[go_sem]
   refine Wk ?_
   refine⟨fun h2 => ?_,fun h2 => ?_⟩
   ·have hjN:j<N:=by omega
    have hgj:=hbg j hjN
    refine W4 hgi hgj hlT hbl ?_
    refine⟨fun h3 => ?_,fun h3 => ?_⟩
    ·have hws:=words_set (f:=f) (n:=N) (j:=j) h3
     have hq:=quo64 j (by omega)
     have hr6:=rem64 j
     have hjm:j / 64<nW N:=by unfold nW;omega
     have hwl:=word_lt (f:=f) (j:=j)
     have hgw:((wordsF f N j).map fun w:Nat=>au64 (w:Int)).getD (j / 64) .any=au64 (wordOf f (j / 64) j):=by
      rw[List.getD_eq_getElem?_getD,List.getElem?_map,words_get hjm];rfl
     have hcv:IntKind.u64.wrap ((j % 64:Nat):Int)=((j % 64:Nat):Int):=wrap_u64n (Nat.lt_of_lt_of_le (Nat.mod_lt j (by decide)) (by decide))
     have hsh:=shl_bit (b:=j % 64) (Nat.mod_lt j (by decide))
     have had:=or_bit hwl (Nat.mod_lt j (by decide))
     have hlen:((wordsF f N j).map fun w:Nat=>au64 (w:Int)).length=nW N:=by rw[List.length_map,words_len]
     have hset:((wordsF f N j).map fun w:Nat=>au64 (w:Int)).set (j / 64) (au64 ((wordOf f (j / 64) j+2 ^ (j % 64):Nat):Int))=(wordsF f N (j+1)).map fun w:Nat=>au64 (w:Int):=by rw[hws,List.map_set]
     generalize ((wordsF f N j).map fun w:Nat=>au64 (w:Int))=ys at *
     generalize hd:j / 64=jd at *
     generalize hmd:j % 64=jm at *
     repeat(first|(with_reducible refine AWp.seq ?_)|(with_reducible refine AWp.block ?_))
     refine AWp.readW mixed [0,1,2,3,4,5,6,7,8,9,10,11,12,13,14] 15 (by kernel_rfl) ?_;simp only[go_sem,hq,hr6,hgw,hsh,had,hlen]
     refine Sd ?_
     refine W1 hgw ?_
     exact⟨_,List.Sublist.refl _,by rw[← hset]⟩
    ·have hws:=words_no (f:=f) (n:=N) (j:=j) (by simpa using h3)
     refine Wk ?_
     exact⟨_,List.Sublist.refl _,by rw[hws]⟩
   ·have:N=j:=by omega
    subst this
    have hvw:Vw [(bw,.row 114 1 ((wordsF f N N).map fun w:Nat=>au64 (w:Int)) (nW N))] (.rp 2 [.agg [ai N,.ls bw 1 0 (nW N) (nW N)]] 0 0) (.rp 2 [aBits N (wordsF f N N)] 0 0) :=
     Vw.mkRp (Vws.cons (Vw.mkAgg (Vws.cons (.refl _) (Vws.cons (Vw.ofLs (t:=114) (cap:=nW N) (if_pos rfl) (by rw[List.length_map,words_len])) .nil))) .nil)
    refine AWp.viewP (Lf:=[(bw,_)]) (Lk:=L) (L':=L) (List.Perm.refl _) (LVw.refl _) [(11,.rp 2 [aBits N (wordsF f N N)] 0 0)] (fun q hq => ?_) ?_
    ·obtain rfl:=List.mem_singleton.1 hq
     simp only[go_sem]
     exact hvw
    clear hvw gw
    have hb:aBits N (wordsF f N N) = .agg [ai N,.sl 1 ((wordsF f N N).map fun w:Nat=>au64 (w:Int))]:=rfl
    generalize wordsF f N N=ws at *
    generalize (relX ps (exF ps l)).take i=rs at *
    rcases hL with ⟨rfl,rfl⟩|⟨c,cap,⟨d1,d2⟩,rfl⟩
    ·have d0:i=0:=by simpa using htl.symm
     simp only[go_sem]
     refine W3 n1 n2 hb ?_
     intro c1 k1 h41 h21 hk1
     have d1:¬c1=b9:=by omega
     have d2:¬c1=b4:=by omega
     have d7:¬b9=c1:=by omega
     have d9:¬b4=c1:=by omega
     simp only[go_sem,d7]
     refine W6 n1 n2 d1 d2 d7 d9 ?_
     rw[hst]
     exact⟨_,List.Sublist.refl _,.inr ⟨c1,k1,⟨d1,d2⟩,rfl⟩⟩
    ·simp only[go_sem]
     have d3:¬b9=c:=fun e=>d1 e.symm
     have d4:¬b4=c:=fun e=>d2 e.symm
     have hrs:(rs.map (aBits N)).take rs.length=rs.map (aBits N):=List.take_of_length_le (by rw[List.length_map];exact Nat.le_refl _)
     repeat(first|((with_reducible refine AWp.ofC ?_ ?_);exact rfl;simp only[go_sem,n1,d1,d2,d3,hb,hrs])|((with_reducible refine an ?_ ?_);exact Au))
     intro c1 k1 h41 h21 hk1
     have e1:¬c1=b9:=fun e=>h41 e.symm
     have e2:¬c1=b4:=fun e=>h21 e.symm
     simp only[go_sem,h41]
     refine W6 n1 n2 e1 e2 h41 h21 ?_
     refine⟨_,List.Sublist.refl _,?_⟩
     rw[hst]
     exact .inr ⟨c1,k1,⟨e1,e2⟩,by rw[List.length_append,List.map_append];rfl⟩
  ·have:i=N:=by omega
   subst this
   rw[List.take_of_length_le (by omega)] at hL
   rcases hL with ⟨e0,rfl⟩|⟨c,cap,⟨d1,d2⟩,rfl⟩
   ·refine W2 n1 n2 ?_
    refine ret_view [true,true] ?_;simp only[go_sem]
    simp only[go_sem,n2]
    unfold aRelR
    rw[e0]
    exact .mkTup (Vws.cons (.mkAgg (Vws.cons (.nil 2) .nil)) (Vws.refl _))
   ·have d3:¬b9=c:=fun e=>d1 e.symm
    have d4:¬b4=c:=fun e=>d2 e.symm
    refine W6 n1 n2 d1 d2 d3 d4 ?_
    refine ret_view [true,true,true] ?_;simp only[go_sem]
    simp only[go_sem,n2,d4]
    exact .mkTup (Vws.cons (.mkAgg (Vws.cons (Vw.ofLs (t:=111) (cap:=cap) (if_pos rfl) (by rw[List.length_map])) .nil)) (Vws.refl _))
 ·rw[if_neg h0]
  generalize syE ps l=e at *
  refine PC.enter 74 [.cell 4 45,.tmp 5] [2,11,70] Proofs.Tryz.func16 rfl rfl rfl rfl rfl (by simp) (AWp.of ?_);simp only[go_sem]
  intro b4
  refine Wk ?_
  refine Sd ?_
  refine(hva).val.use ?_;simp only[go_sem]
  refine Wk ?_
  refine Sd ?_
  refine(h1).val.use ?_;simp only[go_sem]
  refine W1 h0 ?_
  refine ret_view [true] ?_;simp only[go_sem]
  exact .mkTup (Vws.cons (Vw.mkAgg (Vws.cons (.nil 2) .nil)) (Vws.refl _))
def szW (ps:List Pr):Int:=if 10<ps.length then 1000 else if ps.all smP=true then smW ps ps.length else 1000
theorem szW_sm {ps:List Pr} {m:Int} (hm:m<1000) (h:szW ps≤m):smF ps m=true:=by
 unfold szW at h
 unfold smF
 split at h
 ·omega
 ·split at h
  ·rename_i h1 h2
   rw[h2,decide_eq_true (by omega),decide_eq_true h];rfl
  ·omega
theorem law44_size1 (e:Ev):PC Proofs.Tryz.prog 27 [aEv e] (ab (asg12 e)):=by
 refine PC.enter 7 [.tmp 2] [1] Proofs.Tryz.func27 rfl rfl rfl rfl rfl (by simp) (AWp.of ?_);simp only[go_sem]
 refine Wk ?_
 refine ret_eq ?_;simp only[go_sem]
 rfl
theorem law44_size (ps:List Pr) (hpl:ps.length≤9223372036854775807) (hl:∀p ∈ ps,p.evs.length≤9223372036854775807):PC Proofs.Tryz.prog 7 [aTr ps] (ai (szW ps)):=by
 by_cases h10:ps.length≤10
 ·have h10i:¬(10:Int)<(ps.length:Int):=by omega
  have hsf:szW ps=if ps.all smP=true then smW ps ps.length else 1000:=by unfold szW;rw[if_neg (by omega)]
  refine PC.enter 33 [.tmp 2] [1,5] Proofs.Tryz.func7 rfl rfl rfl rfl rfl (by simp) (AWp.of ?_);simp only[go_sem]
  repeat(first|((with_reducible refine AWp.ofC ?_ ?_);exact rfl;simp only[go_sem,h10i])|((with_reducible refine an ?_ ?_);exact Au))
  refine AWp.range1' ps.length [3] [11,12] (fun k vs L=>L=[]∧vs=[ai (smW ps k)]∧∀(j:Nat) (hj:j<ps.length),j<k→smP ps[j]=true) (by omega) rfl rfl rfl ⟨rfl,rfl,fun _ _ h=>by omega⟩ ?_ ?_
  ·rintro k vs L hk - ⟨rfl,rfl,hI⟩
   have hgp:=getD_map (f:=aPr) hk
   have hfp:smP ps[k] = !(decide (12<(ps[k].vars.length:Int)) || ps[k].evs.any asg12):=rfl
   have hsw:smW ps (k+1)=addW (smW ps k) ps[k].evs.length:=by rw[← nev_get hk];rfl
   have hin:=smW_in ps k
   have hel:=hl _ (List.getElem_mem hk)
   have hall:smP ps[k]=false→szW ps=1000:=fun h=>by
    rw[hsf,if_neg]
    rw[Bool.not_eq_true]
    exact List.all_eq_false.2 ⟨_,List.getElem_mem hk,by rw[h];decide⟩
   have hI':smP ps[k]=true→∀(j:Nat) (hj:j<ps.length),j<k+1→smP ps[j]=true:=fun h j hj hjk=>by
    by_cases e:j=k
    ·subst e;exact h
    ·exact hI j hj (by omega)
   have hcf:=events_containsFuncB ps[k].evs hel (.v (.func (.func 27) #[] #[])) rfl asg12 fun e _=>(law44_size1 e).val
   clear hI
   generalize szW ps=Z at *
   generalize ps[k]=x at *
   simp only[go_sem]
   refine Sd ?_
   refine AWp.of ?_;simp only[go_sem,hgp]
   refine Sd ?_
   intros
   refine AWp.seq (AWp.regionW ?_)
   simp only[go_sem]
   rw[← hsw]
   generalize smW ps (k+1)=z' at *
   generalize smW ps k=z at *
   refine Wk ?_
   refine Sd ?_
   refine Gc hcf ?_
   refine Wk ?_
   refine⟨fun h => ?_,fun h1 h2 => ?_⟩
   ·have hx:smP x=false:=by
     rw[hfp,Bool.not_eq_false']
     simpa using h
    rw[hall hx]
    refine Wk ?_
    refine ret_eq ?_;simp only[go_sem]
   ·have hx:smP x=true:=by
     rw[hfp,h2]
     simp
     omega
    refine Wk ?_
    exact⟨_,List.Sublist.refl _,rfl,hI' hx⟩
  ·rintro vs L - ⟨rfl,rfl,hI⟩
   have hz:szW ps=smW ps ps.length:=by
    rw[hsf,if_pos]
    rw[List.all_eq_true]
    intro x hx
    obtain⟨j,hj,rfl⟩:=List.getElem_of_mem hx
    exact hI j hj hj
   rw[hz]
   simp only[go_sem]
   refine Wk ?_
   refine ret_eq ?_;simp only[go_sem]
 ·have h10i:(10:Int)<(ps.length:Int):=by omega
  have hz:szW ps=1000:=by unfold szW;rw[if_pos (by omega)]
  rw[hz]
  refine PC.enter 33 [.tmp 2] [1,5] Proofs.Tryz.func7 rfl rfl rfl rfl rfl (by simp) (AWp.of ?_);simp only[go_sem]
  repeat(first|((with_reducible refine AWp.ofC ?_ ?_);exact rfl;simp only[go_sem,h10i])|((with_reducible refine an ?_ ?_);exact Au))
  refine ret_eq ?_;simp only[go_sem]
def psE:List Pr:=[⟨⟨#[97]⟩,[],[⟨1,0,0,0,[]⟩,⟨1,0,0,0,[]⟩]⟩,⟨⟨#[98]⟩,[],[⟨1,0,0,0,[]⟩,⟨1,0,0,0,[]⟩]⟩]
def notE (p:Int):Pd:=.mk 10 0 0 0 ByteArray.empty [.mk 3 0 p 0 ByteArray.empty [],.mk 1 1 0 0 ByteArray.empty []]
def tsE:List Pd:=[notE 0,notE 1]
theorem psE_valid:validF psE=true:=by
 unfold validF faultF
 rw[if_neg (by decide),show procFirst psE=none from rfl,show evFirst psE=none from rfl,show msgF psE=none from rfl,cycF_rank (fun x=>x.2) (by decide)]
 rfl
theorem psE_sm:Sm psE:=⟨by decide,by decide,by decide,by decide⟩
theorem lclE {p:Int} {t:Pd} (h1:formedB t=true) (h2:allB (resB psE) t=true) (h3:typedB t=true) (h4:fitB psE t=true) (h5:0≤p∧p<2) (h7:¬t.kind≤8) (h8:allB (lclB p) t=true):lclF psE p 0 t=0:=by
 have hc:checkF psE t=0:=by
  unfold checkF
  rw[psE_valid,h1,h2,h3,h4];rfl
 have hn:0≤evN psE p:=by
  unfold evN;split <;> omega
 have hl:(psE.length:Int)=2:=rfl
 unfold lclF
 rw[hc,if_neg (by decide),if_neg (by omega),if_neg h7,h8];rfl
theorem conF_E:conF psE tsE=0:=conF_zero ⟨psE_valid,rfl⟩ fun q hq=>by
 have hq:q<2:=hq
 rcases q with _|_|q
 ·exact lclE rfl rfl rfl rfl (by decide) (show ¬(_:Int)≤8 from by simp [tsE,notE,Pd.kind]) rfl
 ·exact lclE rfl rfl rfl rfl (by decide) (show ¬(_:Int)≤8 from by simp [tsE,notE,Pd.kind]) rfl
 ·omega
theorem bad_E:badX psE tsE 0 1=true∧badX psE tsE 1 1=true:=⟨rfl,rfl⟩
theorem ctl_E:ctlB psE [] (badX psE tsE)=false:=by
 cases h:ctlB psE [] (badX psE tsE) with
 | false=>rfl
 | true =>
  refine absurd ⟨fun _=>1,fun p hp => ?_,fun p hp => ?_,fun a ha i hi hd y hy => ?_⟩ (ctlB_true.1 h)
  ·have hp:p<2:=hp
   rcases p with _|_|p
   ·decide
   ·decide
   ·omega
  ·have hp:p<2:=hp
   rcases p with _|_|p
   ·exact bad_E.1
   ·exact bad_E.2
   ·omega
  ·have hi0:i=0:=by omega
   subst hi0
   have ha:a<2:=ha
   rcases a with _|_|a
   ·have:dirX psE [] 0 0=[]:=rfl
    rw[this] at hy;cases hy
   ·have:dirX psE [] 1 0=[]:=rfl
    rw[this] at hy;cases hy
   ·omega
theorem stepE {c:List Int} {R:List (List Int)} (hc:isF psE c=true) (h:chnF psE c R=true):R=[]∨∃q R',(q=0∨q=1)∧rdyF psE c q=true∧R=stpC c q :: R'∧isF psE (stpC c q)=true∧chnF psE (stpC c q) R'=true:=by
 cases R with
 | nil=>exact .inl rfl
 | cons b R =>
  obtain⟨q,q1,q2,rfl,_,q5⟩:=(chn_cons hc).1 h
  have q1:q<2:=q1
  exact .inr ⟨q,R,by omega,q2,rfl,rdy_is q2,q5⟩
theorem runs_E {R:List (List Int)} (hD:DodgeR psE (badX psE tsE) (zeroC psE :: R)):synL (evtG (zeroC psE) R)=[(((0,2):Eid),((1,1):Eid))]∨synL (evtG (zeroC psE) R)=[(((1,2):Eid),((0,1):Eid))]:=by
 obtain⟨R0,hR0,h,hl⟩:=isrun_inv hD.run
 have:R=R0:=by injection hR0
 subst this
 have hav:=hD.av
 have hbad:[(1:Int),1] ∈ zeroC psE :: R→False:=fun hm=>by
  obtain⟨p,hp,hb⟩:=hav _ hm
  have hp:p<2:=hp
  rcases p with _|_|p
  ·have:badX psE tsE 0 1=false:=hb
   rw[bad_E.1] at this;cases this
  ·have:badX psE tsE 1 1=false:=hb
   rw[bad_E.2] at this;cases this
  ·omega
 clear hD hav
 have hz:zeroC psE=[0,0]:=rfl
 have hf:fullC psE=[2,2]:=rfl
 have e0:isF psE [0,0]=true:=by rw[← hz];exact zeroC_is psE
 rw[hz,hf] at *
 have n1:rdyF psE [2,0] 0=false:=by decide
 have n2:rdyF psE [2,1] 0=false:=by decide
 have n3:rdyF psE [2,2] 0=false:=by decide
 have n4:rdyF psE [2,2] 1=false:=by decide
 have n5:rdyF psE [0,2] 1=false:=by decide
 have n6:rdyF psE [1,2] 1=false:=by decide
 rcases stepE e0 h with rfl|⟨q,R1,hq,hr,rfl,f1,h1⟩
 ·exact absurd (Option.some.inj hl) (by decide)
 rcases hq with rfl|rfl
 ·skip
  rcases stepE f1 h1 with rfl|⟨q,R2,hq,hr,rfl,f2,h2⟩
  ·exact absurd (Option.some.inj hl) (by decide)
  rcases hq with rfl|rfl
  ·skip
   rcases stepE f2 h2 with rfl|⟨q,R3,hq,hr,rfl,f3,h3⟩
   ·exact absurd (Option.some.inj hl) (by decide)
   rcases hq with rfl|rfl
   ·exact absurd (n1.symm.trans hr) (by decide)
   ·skip
    rcases stepE f3 h3 with rfl|⟨q,R4,hq,hr,rfl,f4,h4⟩
    ·exact absurd (Option.some.inj hl) (by decide)
    rcases hq with rfl|rfl
    ·exact absurd (n2.symm.trans hr) (by decide)
    ·skip
     rcases stepE f4 h4 with rfl|⟨q,R5,hq,hr,rfl,_,_⟩
     ·exact .inl rfl
     ·rcases hq with rfl|rfl
      ·exact absurd (n3.symm.trans hr) (by decide)
      ·exact absurd (n4.symm.trans hr) (by decide)
  ·exact(hbad (List.mem_cons_of_mem _ (List.mem_cons_of_mem _ List.mem_cons_self))).elim
 ·skip
  rcases stepE f1 h1 with rfl|⟨q,R2,hq,hr,rfl,f2,h2⟩
  ·exact absurd (Option.some.inj hl) (by decide)
  rcases hq with rfl|rfl
  ·exact(hbad (List.mem_cons_of_mem _ (List.mem_cons_of_mem _ List.mem_cons_self))).elim
  ·skip
   rcases stepE f2 h2 with rfl|⟨q,R3,hq,hr,rfl,f3,h3⟩
   ·exact absurd (Option.some.inj hl) (by decide)
   rcases hq with rfl|rfl
   ·skip
    rcases stepE f3 h3 with rfl|⟨q,R4,hq,hr,rfl,f4,h4⟩
    ·exact absurd (Option.some.inj hl) (by decide)
    rcases hq with rfl|rfl
    ·skip
     rcases stepE f4 h4 with rfl|⟨q,R5,hq,hr,rfl,_,_⟩
     ·exact .inr rfl
     ·rcases hq with rfl|rfl
      ·exact absurd (n3.symm.trans hr) (by decide)
      ·exact absurd (n4.symm.trans hr) (by decide)
    ·exact absurd (n6.symm.trans hr) (by decide)
   ·exact absurd (n5.symm.trans hr) (by decide)
theorem one_E {R:List (List Int)} {l:List Syn} (hD:DodgeR psE (badX psE tsE) (zeroC psE :: R)) (hs:l.Sublist (synL (evtG (zeroC psE) R))) (hc:ctlB psE l (badX psE tsE)=true):l=[(((0,2):Eid),((1,1):Eid))]∨l=[(((1,2):Eid),((0,1):Eid))]:=by
 have hne:l ≠ []:=fun e=>by rw[e,ctl_E] at hc;cases hc
 rcases runs_E hD with e|e
 ·rw[e] at hs
  left
  cases hs with
  | cons _ h=>cases h;exact absurd rfl hne
  | cons_cons _ h=>cases h;rfl
 ·rw[e] at hs
  right
  cases hs with
  | cons _ h=>cases h;exact absurd rfl hne
  | cons_cons _ h=>cases h;rfl
noncomputable def aRfs (ps:List Pr) (ts:List Pd):AV:=if conF ps ts=0 then (match tgtO ps (rowsX ps ts) with
 | some a => .tup [.sl 3 ((chcL ps.length (rowsX ps ts) a).map aStp),ai 0]
 | none => .tup [.sl 3 [],ai 7]) else .tup [.sl 3 [],ai (conF ps ts)]
theorem aRfs_some {ps:List Pr} {ts:List Pd} (h0:conF ps ts=0) {a:Nat→Nat} (h:LeastS ps (rowsX ps ts) a):aRfs ps ts = .tup [.sl 3 ((chcL ps.length (rowsX ps ts) a).map aStp),ai 0]:=by
 obtain⟨a',h1,h2⟩:=tgtO_some h
 unfold aRfs
 rw[if_pos h0,h1];dsimp only;rw[chcL_congr h2]
theorem aRfs_none {ps:List Pr} {ts:List Pd} (h0:conF ps ts=0) (h:¬ ∃t,TgtS ps (rowsX ps ts) t):aRfs ps ts = .tup [.sl 3 [],ai 7]:=by
 unfold aRfs;rw[if_pos h0,tgtO_none h]
theorem control_Refuse (ps:List Pr) (hs:Sm ps) (ts:List Pd) (hz:∀t ∈ ts,szF t≤1000000) (htl:ts.length≤1000000):PC Proofs.Tryz.prog 19 [aTr ps,.sl 6 (ts.map aPd)] (aRfs ps ts):=by
 have h1:=control_False ps hs ts hz htl
 by_cases hC:conF ps ts=0
 ·rw[if_pos hC] at h1
  obtain⟨hv,hlen,_⟩:=conF_inv hC
  have hR:=rowsX_ok ps ts
  have hRl:=rowsX_len ps hs hv ts
  have hti:=order_tight ps hs hv (decide (lftX ps (exF ps [])=0)) hR hRl
  have hex0:=control_extended ps hs hv [] (synOk_nil ps) (by simp)
  have hss:aStss ((List.range ps.length).map (rowsX ps ts))=aRowsX ps ts:=by unfold aStss aRowsX;rw[List.map_map];rfl
  rw[hss] at hti
  obtain⟨X,hX⟩:∃X,aOrd ps (exF ps []) (decide (lftX ps (exF ps [])=0)) = .rp 3 X 0 0:=⟨_,rfl⟩
  rw[hX] at hti hex0
  unfold aRowsX at h1 hti
  have hex1:PC Proofs.Tryz.prog 33 [aTr ps,anil] (.rp 3 X 0 0):=PC.nilB (k:=4) hex0
  generalize (List.range ps.length).map (fun p=>AV.sl 3 ((rowsX ps ts p).map aStp))=RW at *
  by_cases hT:∃t,TgtS ps (rowsX ps ts) t
  ·obtain⟨a,ha⟩:=least_ex hR hT
   rw[aTgt_some ha] at hti
   rw[aRfs_some hC ha]
   refine PC.enter 29 [.tmp 4,.tmp 5] [2] Proofs.Tryz.func19 rfl rfl rfl rfl rfl (by simp) (AWp.of ?_);simp only[go_sem]
   refine Wk ?_
   refine Sd ?_
   refine(h1).val.use ?_;simp only[go_sem]
   refine Wk ?_
   refine Sd ?_
   refine(hex1).val.use ?_;simp only[go_sem]
   refine Sd ?_
   refine(hti).val.use ?_;simp only[go_sem]
   refine Wk ?_
   refine ret_eq ?_;simp only[go_sem]
  ·rw[aTgt_none hT] at hti
   rw[aRfs_none hC hT]
   refine PC.enter 29 [.tmp 4,.tmp 5] [2] Proofs.Tryz.func19 rfl rfl rfl rfl rfl (by simp) (AWp.of ?_);simp only[go_sem]
   refine Wk ?_
   refine Sd ?_
   refine(h1).val.use ?_;simp only[go_sem]
   refine Wk ?_
   refine Sd ?_
   refine(hex1).val.use ?_;simp only[go_sem]
   refine Sd ?_
   refine(hti).val.use ?_;simp only[go_sem]
   refine Wk ?_
   refine ret_view [] ?_;simp only[go_sem]
   exact .mkTup (Vws.cons (.nil 3) (Vws.refl _))
 ·rw[if_neg hC] at h1
  unfold aRfs
  rw[if_neg hC]
  generalize conF ps ts=C at *
  refine PC.enter 29 [.tmp 4,.tmp 5] [2] Proofs.Tryz.func19 rfl rfl rfl rfl rfl (by simp) (AWp.of ?_);simp only[go_sem]
  refine Wk ?_
  refine Sd ?_
  refine(h1).val.use ?_;simp only[go_sem]
  refine W1 hC ?_
  refine ret_view [] ?_;simp only[go_sem]
  exact .mkTup (Vws.cons (.nil 3) (Vws.refl _))
theorem none_E:¬ ∃t,TgtS psE (rowsX psE tsE) t:=fun ⟨t,h1,h2⟩=>by
 have a0:=h1 0 (by decide)
 have a1:=h1 1 (by decide)
 have e0:lenSp (rowsX psE tsE) 0=1:=rfl
 have e1:lenSp (rowsX psE tsE) 1=1:=rfl
 have z0:t 0=0:=by omega
 have z1:t 1=0:=by omega
 have h3:=h2 0 1 (by decide) (by decide) (by decide)
 rw[z0,z1] at h3
 have f0:fSp (rowsX psE tsE) 0 0=(0,1,1):=rfl
 have f1:fSp (rowsX psE tsE) 1 0=(1,1,1):=rfl
 rw[f0,f1] at h3
 revert h3
 decide
theorem law44_part (p:Int):PC Proofs.Tryz.prog 25 [ai p] (aPd (notE p)):=by
 have hP:aPd (notE p) = .agg [ai 10,ai 0,ai 0,ai 0,astr ByteArray.empty,.sl 6 [.agg [ai 3,ai 0,ai p,ai 0,astr ByteArray.empty,.sl 6 []],.agg [ai 1,ai 1,ai 0,ai 0,astr ByteArray.empty,.sl 6 []]]]:=by
  unfold notE
  rw[aPd_mk,List.map_cons,List.map_cons,List.map_nil,aPd_mk,aPd_mk];rfl
 rw[hP]
 refine PC.enter 8 [.cell 2 71] [6] Proofs.Tryz.func25 rfl rfl rfl rfl rfl (by simp) (AWp.of ?_);simp only[go_sem]
 refine Wk ?_
 intro b4
 refine Wk ?_
 refine ret_view [] ?_;simp only[go_sem]
 refine .mkAgg ?_
 refine Vws.cons (.refl _) (Vws.cons (.refl _) (Vws.cons (.refl _) (Vws.cons (.refl _) (Vws.cons (.refl _) (Vws.cons (Vw.mkSl ?_) .nil)))))
 refine Vws.cons (.mkAgg ?_) (Vws.cons (.mkAgg ?_) .nil)
 ·exact Vws.cons (.refl _) (Vws.cons (.refl _) (Vws.cons (.refl _) (Vws.cons (.refl _) (Vws.cons (.refl _) (Vws.cons (.nil 6) .nil)))))
 ·exact Vws.cons (.refl _) (Vws.cons (.refl _) (Vws.cons (.refl _) (Vws.cons (.refl _) (Vws.cons (.refl _) (Vws.cons (.nil 6) .nil)))))
set_option maxHeartbeats 1000000 in
theorem law44_awake:PC Proofs.Tryz.prog 6 [] (ab true):=by
 have hzS:∀t ∈ tsE,szF t≤1000000:=fun t ht=>by
  simp only[tsE,List.mem_cons,List.not_mem_nil,or_false] at ht
  rcases ht with rfl|rfl <;> decide
 have h1:MCalls Proofs.Tryz.prog 9 [aTr psE,.sl 6 (tsE.map aPd)] [] fun r L=>L=[]∧∃a b c d:Int,((a=0∧b=2∧c=1∧d=1)∨(a=1∧b=2∧c=0∧d=1))∧r = .tup [.sl 4 [.agg [ai a,ai b,ai c,ai d]],ai 0] :=
  (control_Control psE psE_sm tsE hzS (by decide)).mono fun r L ⟨e,h⟩=>⟨e,by
   rcases h with ⟨h,_⟩|⟨_,h,_⟩|⟨_,_,R,l,hD,hs,hc,_,rfl⟩
   ·exact absurd conF_E h
   ·exact absurd h none_E
   ·rcases one_E hD hs hc with rfl|rfl
    ·exact⟨0,2,1,1,.inl ⟨rfl,rfl,rfl,rfl⟩,rfl⟩
    ·exact⟨1,2,0,1,.inr ⟨rfl,rfl,rfl,rfl⟩,rfl⟩⟩
 have h2:=control_False psE psE_sm tsE hzS (by decide)
 have h3:=control_Refuse psE psE_sm tsE hzS (by decide)
 rw[if_pos conF_E] at h2
 rw[aRfs_none conF_E none_E] at h3
 have hrw:aRowsX psE tsE = .sl 1 [.sl 3 [.agg [ai 0,ai 1,ai 1]],.sl 3 [.agg [ai 1,ai 1,ai 1]]]:=rfl
 rw[hrw] at h2
 have h4:=spans_equal [(1,1,1)] [(1,1,1)] (by decide)
 rw[decide_eq_true rfl] at h4
 have haS:aSps [(1,1,1)] = .sl 3 [.agg [ai 1,ai 1,ai 1]]:=rfl
 rw[haS] at h4
 have p0:=law44_part 0
 have p1:=law44_part 1
 obtain⟨l0,hk0⟩:∃l,aPd (notE 0) = .agg [ai 10,ai 0,ai 0,ai 0,astr ByteArray.empty,.sl 6 l]:=⟨_,aPd_mk _ _ _ _ _ _⟩
 obtain⟨l1,hk1⟩:∃l,aPd (notE 1) = .agg [ai 10,ai 0,ai 0,ai 0,astr ByteArray.empty,.sl 6 l]:=⟨_,aPd_mk _ _ _ _ _ _⟩
 have hS:tsE.map aPd=[aPd (notE 0),aPd (notE 1)]:=rfl
 rw[hS] at h1 h2 h3
 rw[hk0] at p0 h1 h2 h3
 rw[hk1] at p1 h1 h2 h3
 have hT:aTr psE = .agg [.sl 3 [.agg [astr ⟨#[97]⟩,.sl 2 [],.sl 5 [.agg [ai 1,ai 0,ai 0,ai 0,.sl 2 []],.agg [ai 1,ai 0,ai 0,ai 0,.sl 2 []]]],.agg [astr ⟨#[98]⟩,.sl 2 [],.sl 5 [.agg [ai 1,ai 0,ai 0,ai 0,.sl 2 []],.agg [ai 1,ai 0,ai 0,ai 0,.sl 2 []]]]]]:=rfl
 rw[hT] at h1 h2 h3
 refine PC.enter 97 [.tmp 0] [2,7,8,9,10,17,22,28,90] Proofs.Tryz.func6 rfl rfl rfl rfl rfl (by simp) (AWp.of ?_);simp only[go_sem]
 refine Wk ?_
 intros
 refine Wk ?_
 intros
 refine Wk ?_
 intros
 refine Wk ?_
 refine Sd ?_
 refine(p0).val.use ?_;simp only[go_sem]
 refine Wk ?_
 refine Sd ?_
 refine(p1).val.use ?_;simp only[go_sem]
 refine Wk ?_
 intros
 refine Wk ?_
 have ve:Vw [] (.agg [ai 1,ai 0,ai 0,ai 0,anil]) (.agg [ai 1,ai 0,ai 0,ai 0,.sl 2 []]):=.mkAgg (Vws.cons (.refl _) (Vws.cons (.refl _) (Vws.cons (.refl _) (Vws.cons (.refl _) (Vws.cons (.nil 2) .nil)))))
 have vE:Vw [] (.sl 5 [.agg [ai 1,ai 0,ai 0,ai 0,anil],.agg [ai 1,ai 0,ai 0,ai 0,anil]]) (.sl 5 [.agg [ai 1,ai 0,ai 0,ai 0,.sl 2 []],.agg [ai 1,ai 0,ai 0,ai 0,.sl 2 []]]):=.mkSl (Vws.cons ve (Vws.cons ve .nil))
 have vP:=fun s:AV=>show Vw [] (.agg [s,anil,.sl 5 [.agg [ai 1,ai 0,ai 0,ai 0,anil],.agg [ai 1,ai 0,ai 0,ai 0,anil]]]) (.agg [s,.sl 2 [],.sl 5 [.agg [ai 1,ai 0,ai 0,ai 0,.sl 2 []],.agg [ai 1,ai 0,ai 0,ai 0,.sl 2 []]]]) from .mkAgg (Vws.cons (.refl _) (Vws.cons (.nil 2) (Vws.cons vE .nil)))
 have vT:=Vw.mkAgg (L:=[]) (Vws.cons (Vw.mkSl (k:=3) (Vws.cons (vP (astr ⟨#[97]⟩)) (Vws.cons (vP (astr ⟨#[98]⟩)) .nil))) .nil)
 clear ve vE vP
 refine MVal.pass (Lf:=[]) (Li:=[]) (Lr:=[]) (by simp) (Vws.cons vT (Vws.refl _)) h1.val ?_
 rintro r L1 ⟨rfl,a,b,c,d,habcd,rfl⟩
 refine⟨[],.refl _,?_⟩
 simp only[go_sem]
 refine Wk ?_
 intro bA
 refine Wk ?_
 intro bB hAB
 have nA:¬bA=bB:=by omega
 have nB:¬bB=bA:=by omega
 simp only[go_sem,nA]
 refine Sd ?_
 refine Wk ?_
 intro bC
 refine Wk ?_
 intro bD hCD
 have nC:¬bC=bD:=by omega
 have nD:¬bD=bC:=by omega
 simp only[go_sem,nC]
 refine Sd ?_
 refine Wk ?_
 refine MVal.pass (Lf:=[]) (Li:=[]) (Lr:=[]) (by simp) (Vws.cons vT (Vws.refl _)) h2.val ?_
 rintro r L1 ⟨rfl,rfl⟩
 refine⟨[],.refl _,?_⟩
 simp only[go_sem]
 refine Wk ?_
 refine MVal.pass (Lf:=[]) (Li:=[]) (Lr:=[]) (by simp) (Vws.cons vT (Vws.refl _)) h3.val ?_
 rintro r L1 ⟨rfl,rfl⟩
 refine⟨[],.refl _,?_⟩
 simp only[go_sem]
 refine Wk ?_
 have c1:((1:Nat):Int)=1:=rfl
 have c2:((2:Nat):Int)=2:=rfl
 rcases habcd with ⟨rfl,rfl,rfl,rfl⟩|⟨rfl,rfl,rfl,rfl⟩
 ·repeat(first|(with_reducible refine AWp.seq ?_)|(with_reducible refine AWp.block ?_))
  refine AWp.mix mixed [0,1,2,3,4,5,6,7,8,9,10,11,12,13,14,15,16,17,18,19,20,21,22,23,24,25,26,27,28,29,30,31,32,33,34,35,36,37,38,39,40,41,42,43,44,45,46] .done (by kernel_rfl) ?_;simp only[go_sem,c1,c2]
  refine Sd ?_
  refine Sd ?_
  refine GCall.use (ab true) (fun _=>⟨At,(h4).val.use ⟨rfl,rfl⟩⟩) ?_;simp only[go_sem]
  refine Sd ?_
  refine Wk ?_
  refine ret_eq ?_;simp only[go_sem]
 ·repeat(first|(with_reducible refine AWp.seq ?_)|(with_reducible refine AWp.block ?_))
  refine AWp.mix mixed [0,1,2,3,4,5,6,7,8,9,10,11,12,13,14,15,16,17,18,19,20,21,22,23,24,25,26,27,28,29,30,31,32,33,34,35,36,37,38,39,40,41,42,43,44,45,46] .done (by kernel_rfl) ?_;simp only[go_sem,c1,c2]
  refine Sd ?_
  refine Sd ?_
  refine GCall.use (ab true) (fun _=>⟨At,(h4).val.use ⟨rfl,rfl⟩⟩) ?_;simp only[go_sem]
  refine Sd ?_
  refine Wk ?_
  refine ret_eq ?_;simp only[go_sem]
end Go.AL
end
