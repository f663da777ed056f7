/- Texts of this claim's proof: WJ14. No condition. -/
import Derived.Test.YtjblppbkhgihoaaGreatDoorM18
section
namespace Go.AL
open Go Go.RowKit
set_option maxRecDepth 4000
abbrev txA (ps:List Pr) (c:List Int):AV:=.v (.string (txC ps c))
noncomputable def levA (ps:List Pr) (k:Nat):AV:=.sl 1 ((lvU ps k).map (txA ps))
noncomputable def levsA (ps:List Pr) (k:Nat):List AV:=(List.range k).map (levA ps)
theorem levsA_succ (ps:List Pr) (k:Nat):levsA ps (k+1)=levsA ps k ++ [levA ps k]:=by unfold levsA;rw[List.range_succ,List.map_append];rfl
theorem levsA_len (ps:List Pr) (k:Nat):(levsA ps k).length=k:=by simp [levsA]
theorem levsA_get {ps:List Pr} {n k:Nat} (h:k<n):(levsA ps n).getD k .any=levA ps k:=map_range_getD h _
def TabR (ps:List Pr) (r:AV) (L:AHeap):Prop :=
 (5000<(cutsF ps).length∧r = .tup [.v (.map none),ai 16]∧L=[]) ∨
 ((cutsF ps).length≤5000∧∃b ks vs f,r = .tup [.lm b,ai 0]∧L=[(b,.amap ks vs)]∧MpS ks vs (ai 0) f∧f (txC ps (zeroC ps))=ai (satV (wayV ps (zeroC ps))))
theorem row_step {ps:List Pr} {c:List Int} (hl:c.length=ps.length) {p i:Nat} (hp:p<ps.length) (hi:i<ps[p].evs.length) (hic:cAt c p=i) :
  (bRow (off ps ps.length) (setC ps c)).set (off ps p+i) (ab true)=bRow (off ps ps.length) (setC ps (stpC c p))∧(bRow (off ps ps.length) (setC ps (stpC c p))).set (off ps p+i) (ab false)=bRow (off ps ps.length) (setC ps c):=by
 have hx:=off_lt hp hi
 have e1:setC ps c (off ps p+i)=false:=by rw[setC_at hp hi];exact decide_eq_false (by omega)
 have e2:bRow (off ps ps.length) (setC ps (stpC c p))=bRow (off ps ps.length) (fun j=>setC ps c j || decide (j=off ps p+i)):=bRow_congr fun j hj=>set_step hl hp hi hic hj
 rw[e2]
 constructor
 ·have:=bRow_set (n:=off ps ps.length) (j:=off ps p+i) (f:=setC ps c) (g:=fun j=>setC ps c j || decide (j=off ps p+i)) (fun j hj=>by simp [hj])
  rw[this]
  simp
 ·have:=bRow_set (n:=off ps ps.length) (j:=off ps p+i) (g:=setC ps c) (f:=fun j=>setC ps c j || decide (j=off ps p+i)) (fun j hj=>by simp [hj])
  rw[this,e1]
theorem nx_elem {ps:List Pr} (hv:validF ps=true) {c:List Int} (hc:isF ps c=true) {j:Nat} (hj:j<(enF ps c ps.length).length) :
  ∃p i,∃hp:p<ps.length,i<ps[p].evs.length∧cAt c p=(i:Int)∧isF ps (stpC c p)=true∧(enF ps c ps.length)[j]=p ∧
   ((List.range (off ps ps.length)).filter (nxN (off ps ps.length) (fun i j=>ordZ ps j i) (setC ps c)))[j]?=some (off ps p+i)∧(nbr ps c)[j]?=some (stpC c p):=by
 obtain⟨hl,hr,_⟩:=isF_iff.1 hc
 have hir:=(inRange_iff hl).1 hr
 obtain⟨hq,hrd⟩:=mem_enF.1 (List.getElem_mem hj)
 have hrd2:=of_decide_eq_true (show decide (cAt c (enF ps c ps.length)[j]<nev ps (enF ps c ps.length)[j]∧isF ps (stpC c (enF ps c ps.length)[j])=true)=true from hrd)
 have h0:=(hir _ hq).1
 have hn:=nev_get hq
 refine⟨(enF ps c ps.length)[j],(cAt c (enF ps c ps.length)[j]).toNat,hq,by omega,by omega,hrd2.2,rfl,?_,?_⟩
 ·rw[nx_list hv hc,List.getElem?_map,List.getElem?_eq_getElem hj];rfl
 ·unfold nbr
  rw[List.getElem?_map,List.getElem?_eq_getElem hj];rfl
def fndB (ps:List Pr) (l:List (List Int)) (s:ByteArray):Bool:=l.any fun c=>decide (txC ps c=s)
theorem fnd_mem {ps:List Pr} {l:List (List Int)} (hl:∀c ∈ l,isF ps c=true) {x:List Int} (hx:isF ps x=true):fndB ps l (txC ps x)=true↔x ∈ l:=by
 unfold fndB
 rw[List.any_eq_true]
 constructor
 ·rintro⟨c,h1,h2⟩
  rw[← txC_inj (hl c h1) hx (of_decide_eq_true h2)];exact h1
 ·intro h
  exact⟨x,h,decide_eq_true rfl⟩
theorem fnd_ins {ps:List Pr} {l:List (List Int)} (x:List Int) (h:x ∉ l) (s:ByteArray):(if s=txC ps x then ab true else ab (fndB ps l s))=ab (fndB ps (insU l x) s):=by
 have e:insU l x=l ++ [x]:=by unfold insU;rw[if_neg h]
 rw[e]
 unfold fndB
 rw[List.any_append]
 by_cases g:s=txC ps x
 ·rw[if_pos g,g];simp
 ·have:¬txC ps x=s:=fun e=>g e.symm
  rw[if_neg g];simp [this]
theorem add_isF {ps:List Pr} {l xs:List (List Int)} (h1:∀c ∈ l,isF ps c=true) (h2:∀c ∈ xs,isF ps c=true):∀c ∈ addU l xs,isF ps c=true:=fun c hc=>(mem_addU.1 hc).elim (h1 c) (h2 c)
theorem add_take {l xs:List (List Int)} {j:Nat} {x:List Int} (h:xs[j]?=some x):addU l (xs.take (j+1))=insU (addU l (xs.take j)) x:=by
 obtain⟨hj,e⟩:=List.getElem?_eq_some_iff.1 h
 rw[List.take_succ_eq_append_getElem hj,addU_snoc,e]
theorem add_len {xs:List (List Int)} : ∀ {l:List (List Int)},(addU l xs).length≤l.length+xs.length:=by
 induction xs with
 | nil=>intro l;exact Nat.le_refl _
 | cons x xs ih =>
  intro l
  show (addU (insU l x) xs).length≤_
  have h1:=ih (l:=insU l x)
  have h2:(insU l x).length≤l.length+1:=by unfold insU;split <;> simp
  rw[List.length_cons];omega
theorem nbr_isF {ps:List Pr} {c x:List Int} (hx:x ∈ nbr ps c):isF ps x=true:=by
 obtain⟨p,hp,rfl⟩:=List.mem_map.1 hx
 have h2:=(mem_enF.1 hp).2
 exact(of_decide_eq_true (show decide (cAt c p<nev ps p∧isF ps (stpC c p)=true)=true from h2)).2
theorem nxU_isF {ps:List Pr} {l:List (List Int)} {x:List Int} (hx:x ∈ nxU ps l):isF ps x=true:=by
 unfold nxU at hx
 rcases mem_nxU.1 hx with h|⟨c,_,h⟩
 ·cases h
 ·exact nbr_isF h
noncomputable def valX (ps:List Pr) (c:List Int) (j:Nat):Int:=match ((List.range (off ps ps.length)).filter (nxN (off ps ps.length) (fun i j=>ordZ ps j i) (setC ps c)))[j]? with|some x=>(x:Int)|none => -1
theorem valX_end {ps:List Pr} (hv:validF ps=true) {c:List Int} (hc:isF ps c=true) {j:Nat} (h:(enF ps c ps.length).length≤j):valX ps c j = -1:=by
 unfold valX
 rw[List.getElem?_eq_none_iff.2 (by rw[nx_list hv hc,List.length_map];exact h)]
section
variable {ps:List Pr} (hv:validF ps=true)
set_option maxHeartbeats 4000000 in
theorem ext_table (ps:List Pr) (hs:Sm ps) (hv:validF ps=true):MCalls Proofs.Tryz.prog 48 [aRelN (off ps ps.length) (ordZ ps)] [] (TabR ps):=by
 have hN:=valid_off hv
 have hi:∀i,i<off ps ps.length→ordZ ps i i=false:=fun i _=>ord_irr i
 have ht:∀i j k,i<off ps ps.length→j<off ps ps.length→k<off ps ps.length→ordZ ps i j=true→ordZ ps j k=true→ordZ ps i k=true:=fun i j k hi hj hk h1 h2=>ord_trans hv (synOk_nil ps) (nil_whl hv) hi hj hk h1 h2
 have h1:=poset_Valid _ hN (ordZ ps) hi ht
 have h2:=ext_open _ hN (ordZ ps)
 have hnext:=fun f a k ha hk hj=>ext_next _ hN (ordZ ps) f a k ha hk hj
 have hload:=fun f g bd=>ext_load _ hN (bloL (off ps ps.length) (ordZ ps)) f g bd (off ps ps.length)
 have hkey:=fun f=>ext_key _ hN (bloL (off ps ps.length) (ordZ ps)) f
 have hT0:5000<(cutsF ps).length→TabR ps (.tup [.v (.map none),ai 16]) []:=fun h => .inl ⟨h,rfl,rfl⟩
 have hz0:bRow (off ps ps.length) (fun _=>false)=bRow (off ps ps.length) (setC ps (zeroC ps)):=bRow_congr fun j hj=>by
  obtain⟨p,i,hp,hi,rfl⟩:=num_form ps.length (Nat.le_refl _) hj
  have hz:cAt (zeroC ps) p=0:=by unfold zeroC cAt;rw[getD_zeros]
  rw[setC_at hp hi,decide_eq_false (by omega)]
 have hcum:=fun k=>cum_lvU hv k
 have hcut:(cumF ps (off ps ps.length+1)).length=(cutsF ps).length:=rfl
 have hmono:=fun j k h=>cumF_mono (ps:=ps) (j:=j) (k:=k) h
 rw[aRelN_eq] at *
 generalize (List.range (off ps ps.length)).map (fun i=>aNs (off ps ps.length) (ordZ ps i))=R at *
 generalize hB:bloL (off ps ps.length) (ordZ ps)=B at *
 refine MCalls.enter' 154 [.tmp 2,.tmp 3] [1,73,93] Proofs.Tryz.func48 rfl rfl rfl rfl rfl (by simp) (AWp.of ?_);simp only[go_sem]
 refine Wk ?_
 refine Sd ?_
 refine(h1).val.use ?_;simp only[go_sem]
 refine Wk ?_
 refine(MVal.frame (Lm:=[]) (Lr:=[]) h2.val).mono ?_
 rintro r L ⟨L1,rfl,bd,rfl,rfl⟩
 rw[hz0]
 have hvw:=fun (f:Nat→Bool) (L:AHeap) (a:List AV) (hL:lk L bd=some (.row 4 1 (bRow (off ps ps.length) f) (off ps ps.length)))=>(Vws.cons (xsP_vw (off ps ps.length) B bd (off ps ps.length) f L hL) (Vws.refl a):Vws L (xsP (off ps ps.length) B bd (off ps ps.length) :: a) (xsV (off ps ps.length) B f :: a))
 have hxo:fo (xsP (off ps ps.length) B bd (off ps ps.length))=(True,xsP (off ps ps.length) B bd (off ps ps.length)):=rfl
 have hxs:xsP (off ps ps.length) B bd (off ps ps.length) = .rp 3 [.agg [ai (off ps ps.length),.sl 1 B,.ls bd 1 0 (off ps ps.length) (off ps ps.length)]] 0 0:=rfl
 simp only[go_sem,List.append_nil,hxo]
 refine W1 hxo ?_
 have hk0:=hkey (setC ps (zeroC ps))
 refine(PC.view (hvw (setC ps (zeroC ps)) [(bd,.row 4 1 (bRow (off ps ps.length) (setC ps (zeroC ps))) (off ps ps.length))] [] (if_pos rfl)) hk0 (Own.v _) ?_).val
 simp only[go_sem,hxo]
 intro b26 g26 b27 g27 g27'
 refine AWp.viewP (Lf:=[(b26,.row 9 1 [txA ps (zeroC ps)] 1)]) (Lk:=[(b27,.row 139 1 [.ls b26 1 0 1 1] 1),(bd,.row 4 1 (bRow (off ps ps.length) (setC ps (zeroC ps))) (off ps ps.length))]) (L':=[(b27,.row 139 1 [levA ps 0] 1),(bd,.row 4 1 (bRow (off ps ps.length) (setC ps (zeroC ps))) (off ps ps.length))]) (List.Perm.swap _ _ _) (.row (Vws.cons (Vw.ofLs (t:=9) (cap:=1) (if_pos rfl) rfl) .nil) (LVw.refl _)) [] (by simp) ?_
 simp only[go_sem,hxo]
 refine W2 hxo hxs ?_
 refine AWp.range' (off ps ps.length) [5,6] [4,31] (fun k vs L=>∃b5 cap5 f,vs=[.ls b5 1 0 (k+1) cap5,ai ((cumF ps (k+1)).length:Nat)]∧(cumF ps (k+1)).length≤5000∧¬bd=b5∧L.Perm [(bd,.row 4 1 (bRow (off ps ps.length) f) (off ps ps.length)),(b5,.row 139 1 (levsA ps (k+1)) cap5)]) (by omega) rfl rfl rfl ⟨b27,1,_,?_,?_,by omega,List.Perm.swap _ _ _⟩ ?_ ?_
 ·rfl
 ·show 1≤5000
  decide
 ·rintro k vs L hk - ⟨b5,cap5,f,rfl,h5,nb,hL⟩
  refine AWp.perm hL ?_
  have nb':¬b5=bd:=fun e=>nb e.symm
  have hge:=levsA_get (ps:=ps) (show k<k+1 by omega)
  have hll:=levsA_len ps (k+1)
  have hlv:levA ps k = .sl 1 ((lvU ps k).map (txA ps)):=rfl
  have hlm:((lvU ps k).map (txA ps)).length=(lvU ps k).length:=List.length_map _
  have hcl:=hcum k
  have hkk:((k+1:Nat):Int) - 1=(k:Int):=by omega
  rw[hlv] at hge
  simp only[go_sem,hxo]
  refine W1 hxo ?_
  intro b7 g7 g7'
  have k1:¬b5=b7:=by omega
  have k2:¬b7=b5:=by omega
  have k3:¬bd=b7:=by omega
  have k4:¬b7=bd:=by omega
  repeat(first|((with_reducible refine AWp.ofC ?_ ?_);exact rfl;simp only[go_sem,hxo,nb,nb',hge,hll,hkk,hlm,k1,k2,k3,k4])|((with_reducible refine an ?_ ?_);exact Au))
  refine AWp.range' (lvU ps k).length [8] [4,5,6,7,31,32,40,41] (fun i vs L=>∃v8 L8 ks us f,vs=[v8]∧(cumF ps (k+1)).length+(nxU ps ((lvU ps k).take i)).length≤5000∧AppSt 9 1 ((nxU ps ((lvU ps k).take i)).map (txA ps)) v8 L8∧MpS ks us (ab false) (fun s=>ab (fndB ps (nxU ps ((lvU ps k).take i)) s))∧L.Perm ((bd,.row 4 1 (bRow (off ps ps.length) f) (off ps ps.length)) :: (b5,.row 139 1 (levsA ps (k+1)) cap5) :: (b7,.amap ks us) :: L8)) (by omega) rfl rfl (by first|rfl|exact congrArg (fun z:Nat=>ai (z:Int)) hlm) ⟨anil,[],[],[],f,rfl,by rw[List.take_zero];exact h5,by rw[List.take_zero];exact .nil,by rw[List.take_zero];exact MpS.nil _,perm_1_2 _ _ _ []⟩ ?_ ?_
  ·rintro i vs L hi - ⟨v8,L8,ks,us,f,rfl,h5i,hA8,hMp,hL⟩
   have hcm:=(mem_lvU hv k _).1 (List.getElem_mem hi)
   have hgi:((lvU ps k).map (txA ps)).getD i .any=txA ps (lvU ps k)[i]:=getD_map hi
   have hnt:=nxU_take (ps:=ps) hi
   have hpF:∀c ∈ nxU ps ((lvU ps k).take i),isF ps c=true:=fun c hc=>nxU_isF hc
   generalize (lvU ps k)[i]=c at *
   obtain⟨hcF,hcs⟩:=hcm
   generalize hPi:nxU ps ((lvU ps k).take i)=Pi at *
   refine AWp.perm hL ?_
   have hfo8:=hA8.fo
   simp only[go_sem,hxo]
   refine W2 hxo hgi ?_
   have hld:=hload f (setC ps c) bd
   refine(MVal.frame (Lm:=[(bd,_)]) (Lr:=(b5,.row 139 1 (levsA ps (k+1)) cap5) :: (b7,.amap ks us) :: L8) hld.val).mono ?_
   rintro r L ⟨L1,rfl,rfl,rfl⟩
   simp only[go_sem,List.cons_append,List.nil_append,hxo]
   refine W1 hxo ?_
   have hn0:=hnext (setC ps c) 0 0 (Nat.zero_le _) (Nat.zero_le _) (by simp)
   refine(PC.view (hvw (setC ps c) ((bd,.row 4 1 (bRow (off ps ps.length) (setC ps c)) (off ps ps.length)) :: (b5,.row 139 1 (levsA ps (k+1)) cap5) :: (b7,.amap ks us) :: L8) [ai ((0:Nat):Int)] (if_pos rfl)) hn0 (Own.v _) ?_).val
   simp only[go_sem,hxo]
   refine W1 hxo ?_
   have hcl:=(isF_iff.1 hcF).1
   have hNL:((List.range (off ps ps.length)).filter (nxN (off ps ps.length) (fun i j=>ordZ ps j i) (setC ps c))).length=(enF ps c ps.length).length:=by rw[nx_list hv hcF,List.length_map]
   have hnbl:(nbr ps c).length=(enF ps c ps.length).length:=by unfold nbr;rw[List.length_map]
   have hnbF:∀x ∈ nbr ps c,isF ps x=true:=fun x hx=>nbr_isF hx
   have hnx:=fun a j h1 h2 h3=>(hnext (setC ps c) a j h1 h2 h3:PC _ _ _ (ai (valX ps c j)))
   change AWp _ _ _ ((11,ai (valX ps c 0)) :: _) _
   refine AWp.block (AWp.loopN [8,11] [4,5,6,7,31,32,40,41,42] (fun m vs L=>∃j a v8 L8 ks us,m=(enF ps c ps.length).length - j∧j≤(enF ps c ps.length).length∧a≤off ps ps.length∧(List.range a).filter (nxN (off ps ps.length) (fun i j=>ordZ ps j i) (setC ps c))=((List.range (off ps ps.length)).filter (nxN (off ps ps.length) (fun i j=>ordZ ps j i) (setC ps c))).take j∧vs=[v8,ai (valX ps c j)]∧AppSt 9 1 ((addU Pi ((nbr ps c).take j)).map (txA ps)) v8 L8∧MpS ks us (ab false) (fun s=>ab (fndB ps (addU Pi ((nbr ps c).take j)) s)) ∧
    L.Perm ((bd,.row 4 1 (bRow (off ps ps.length) (setC ps c)) (off ps ps.length)) :: (b5,.row 139 1 (levsA ps (k+1)) cap5) :: (b7,.amap ks us) :: L8)) (enF ps c ps.length).length ⟨0,0,v8,L8,ks,us,rfl,Nat.zero_le _,Nat.zero_le _,by simp,rfl,hA8,hMp,.refl _⟩ ?_)
   clear hA8 hMp hfo8 hL
   rintro m vs L - ⟨j,a,v8,L8,ks,us,rfl,hjM,haN,hfa,rfl,hA8,hMp,hL⟩
   refine AWp.perm hL (AWp.nodup fun hnd => ?_)
   by_cases hj:j<(enF ps c ps.length).length
   ·obtain⟨p,i',hp,hi',hic,hst,-,hnx1,hnb⟩:=nx_elem hv hcF hj
    have hval:valX ps c j=((off ps p+i':Nat):Int):=by unfold valX;rw[hnx1]
    have z0:(0:Int)≤((off ps p+i':Nat):Int):=by omega
    have hxN:=off_lt hp hi'
    obtain⟨rs1,rs2⟩:=row_step hcl hp hi' hic
    have hg1:=bRow_get (f:=setC ps c) hxN
    have hg2:=bRow_get (f:=setC ps (stpC c p)) hxN
    have hb1:=bRow_len (n:=off ps ps.length) (f:=setC ps c)
    have hb2:=bRow_len (n:=off ps ps.length) (f:=setC ps (stpC c p))
    have hadd:=add_take (l:=Pi) hnb
    have hxt:(((off ps p+i':Nat):Int)).toNat=off ps p+i':=rfl
    obtain⟨x',hx1,_,_,_,_,hx2⟩:=filter_step (by rw[hNL];exact hj) haN hfa
    rw[hnx1] at hx1
    have hx1:=Option.some.inj hx1
    subst hx1
    have hnx2:=hnx (off ps p+i'+1) (j+1) (by omega) (by rw[hNL];exact hj) hx2
    have hxi:((off ps p+i':Nat):Int)+1=((off ps p+i'+1:Nat):Int):=by omega
    have hkey2:=hkey (setC ps (stpC c p))
    change PC _ _ _ (.v (.string (txC ps (stpC c p)))) at hkey2
    have hFj:∀y ∈ addU Pi ((nbr ps c).take j),isF ps y=true:=add_isF hpF fun y hy=>hnbF y (List.mem_of_mem_take hy)
    have hfm:=fnd_mem hFj hst
    have hget:=hMp.get (txC ps (stpC c p))
    have hlj:=add_len (l:=Pi) (xs:=(nbr ps c).take j)
    have hn3:=nd1 hnd
    simp only[go_sem,hxo,hval]
    repeat(first|((with_reducible refine AWp.ofC ?_ ?_);exact rfl;simp only[go_sem,z0,hxo,hxs,hxt,hg1,hb1,rs1])|((with_reducible refine an ?_ ?_);exact Au))
    refine(PC.view (hvw (setC ps (stpC c p)) ((bd,.row 4 1 (bRow (off ps ps.length) (setC ps (stpC c p))) (off ps ps.length)) :: (b5,.row 139 1 (levsA ps (k+1)) cap5) :: (b7,.amap ks us) :: L8) [] (if_pos rfl)) hkey2 (Own.v _) ?_).val
    have hfit:=hMp.fits
    by_cases hin:stpC c p ∈ addU Pi ((nbr ps c).take j)
    ·have hins:insU (addU Pi ((nbr ps c).take j)) (stpC c p)=addU Pi ((nbr ps c).take j):=by unfold insU;rw[if_pos hin]
     rw[hfm.2 hin] at hget
     rw[hins] at hadd
     rw[← hadd] at hA8 hMp
     simp only[go_sem,hxo,nb,k1,k2,k3,k4]
     repeat(first|((with_reducible refine AWp.ofC ?_ ?_);exact rfl;simp only[go_sem,hget,hfit,hxo,hxs,hxt,hg2,hb2,rs2,nb,nb',k1,k2,k3,k4])|((with_reducible refine an ?_ ?_);exact Au))
     refine(PC.view (hvw (setC ps c) ((bd,.row 4 1 (bRow (off ps ps.length) (setC ps c)) (off ps ps.length)) :: (b5,.row 139 1 (levsA ps (k+1)) cap5) :: (b7,.amap ks us) :: L8) [ai ((off ps p+i'+1:Nat):Int)] (if_pos rfl)) hnx2 (Own.v _) ?_).val
     simp only[go_sem,hxo]
     refine W1 hxo ?_
     exact⟨_,List.Sublist.refl _,(enF ps c ps.length).length - (j+1),by omega,j+1,off ps p+i'+1,v8,L8,ks,us,rfl,hj,by omega,hx2,rfl,hA8,hMp,.refl _⟩
    ·have hins:insU (addU Pi ((nbr ps c).take j)) (stpC c p)=addU Pi ((nbr ps c).take j) ++ [stpC c p]:=by unfold insU;rw[if_neg hin]
     have hfB:fndB ps (addU Pi ((nbr ps c).take j)) (txC ps (stpC c p))=false:=by
      rw[Bool.eq_false_iff];exact fun h=>hin (hfm.1 h)
     rw[hfB] at hget
     obtain⟨ks',us',hput,hMp'⟩:=hMp.put (txC ps (stpC c p)) (ab true)
     rw[funext fun s=>fnd_ins (stpC c p) hin s,← hadd] at hMp'
     have hmap:(addU Pi ((nbr ps c).take (j+1))).map (txA ps)=(addU Pi ((nbr ps c).take j)).map (txA ps) ++ [.v (.string (txC ps (stpC c p)))]:=by rw[hadd,hins,List.map_append];rfl
     have hyl:((addU Pi ((nbr ps c).take j)).map (txA ps)).length≤6000:=by
      rw[List.length_map]
      rw[List.length_take] at hlj
      have:=enF_len ps c ps.length
      have:=(valid_len hv).2
      omega
     generalize (addU Pi ((nbr ps c).take j)).map (txA ps)=ys at *
     rcases hA8.inv with ⟨e1,rfl,rfl⟩|⟨b8,c8,rfl,rfl⟩
     ·simp only[go_sem,hxo,nb,k1,k2,k3,k4]
      repeat(first|((with_reducible refine AWp.ofC ?_ ?_);exact rfl;simp only[go_sem,hget,hfit,hput,hxo,hxs,hxt,hg2,hb2,rs2,nb,nb',k1,k2,k3,k4])|((with_reducible refine an ?_ ?_);exact Au))
      intro b' cap'
      intros
      have m1:¬bd=b':=by omega
      repeat(first|((with_reducible refine AWp.ofC ?_ ?_);exact rfl;simp only[go_sem,hxo,hxs,hxt,hg2,hb2,rs2,nb,nb',k1,k2,k3,k4,m1])|((with_reducible refine an ?_ ?_);exact Au))
      refine(PC.view (hvw (setC ps c) ((b',.row 9 1 [.v (.string (txC ps (stpC c p)))] cap') :: (bd,.row 4 1 (bRow (off ps ps.length) (setC ps c)) (off ps ps.length)) :: (b5,.row 139 1 (levsA ps (k+1)) cap5) :: (b7,.amap ks' us') :: []) [ai ((off ps p+i'+1:Nat):Int)] ((if_neg m1).trans (if_pos rfl))) hnx2 (Own.v _) ?_).val
      simp only[go_sem,hxo]
      refine W1 hxo ?_
      exact⟨_,List.Sublist.refl _,(enF ps c ps.length).length - (j+1),by omega,j+1,off ps p+i'+1,_,[(b',_)],ks',us',rfl,hj,by omega,hx2,rfl,by rw[hmap,e1];exact .row _ [_] _,hMp',(List.perm_append_comm (l₁:=[(b',_)]) (l₂:=[(bd,_),(b5,_),(b7,_)]))⟩
     ·have hd:¬bd=b8∧¬b5=b8∧¬b7=b8:=by
       simp only[List.map_cons,List.map_nil,List.nodup_cons,List.mem_cons,List.not_mem_nil,or_false,not_or] at hnd
       exact⟨hnd.1.2.2,hnd.2.1.2,hnd.2.2.1⟩
      obtain⟨d1,d2,d3⟩:=hd
      have d1':¬b8=bd:=fun e=>d1 e.symm
      have d2':¬b8=b5:=fun e=>d2 e.symm
      have d3':¬b8=b7:=fun e=>d3 e.symm
      simp only[go_sem,hxo,nb,k1,k2,k3,k4,d1,d2,d3,d1',d2',d3']
      repeat(first|((with_reducible refine AWp.ofC ?_ ?_);exact rfl;simp only[go_sem,hget,hfit,hput,hxo,hxs,hxt,hg2,hb2,rs2,nb,nb',k1,k2,k3,k4,d1,d2,d3,d1',d2',d3'])|((with_reducible refine an ?_ ?_);exact Au))
      refine Sd ?_
      intro b' cap'
      intros
      have m1:¬bd=b':=by first|omega|assumption
      repeat(first|((with_reducible refine AWp.ofC ?_ ?_);exact rfl;simp only[go_sem,hxo,hxs,hxt,hg2,hb2,rs2,nb,nb',k1,k2,k3,k4,m1])|((with_reducible refine an ?_ ?_);exact Au))
      refine(PC.view (hvw (setC ps c) ((b',.row 9 1 (ys ++ [.v (.string (txC ps (stpC c p)))]) cap') :: (bd,.row 4 1 (bRow (off ps ps.length) (setC ps c)) (off ps ps.length)) :: (b5,.row 139 1 (levsA ps (k+1)) cap5) :: (b7,.amap ks' us') :: []) [ai ((off ps p+i'+1:Nat):Int)] ((if_neg m1).trans (if_pos rfl))) hnx2 (Own.v _) ?_).val
      simp only[go_sem,hxo]
      refine W1 hxo ?_
      exact⟨_,List.Sublist.refl _,(enF ps c ps.length).length - (j+1),by omega,j+1,off ps p+i'+1,_,[(b',_)],ks',us',rfl,hj,by omega,hx2,rfl,by rw[hmap];exact AppSt.snoc _ _ _ rfl,hMp',(List.perm_append_comm (l₁:=[(b',_)]) (l₂:=[(bd,_),(b5,_),(b7,_)]))⟩
   ·have hval:valX ps c j = -1:=valX_end hv hcF (by omega)
    have z0:¬(0:Int) ≤ -1:=by decide
    have htk:(nbr ps c).take j=nbr ps c:=List.take_of_length_le (by omega)
    rw[htk,← hnt] at hA8 hMp
    have hln:=len_nxU_take ps (lvU ps k) (i+1)
    have hc1:=hcum (k+1)
    have hc2:lvU ps (k+1)=nxU ps (lvU ps k):=rfl
    rw[hc2] at hc1
    have hc3:=hmono (k+1+1) (off ps ps.length+1) (by omega)
    have hlA:∀z:Nat,z=(nxU ps ((lvU ps k).take (i+1))).length→(5000<(cumF ps (k+1)).length+z→5000<(cutsF ps).length):=fun z hz h=>by omega
    have hml:((nxU ps ((lvU ps k).take (i+1))).map (txA ps)).length=(nxU ps ((lvU ps k).take (i+1))).length:=List.length_map _
    have hlj:=add_len (l:=Pi) (xs:=nbr ps c)
    rw[← hnt] at hlj
    have hlk:=enF_len ps c ps.length
    have hl8:=(valid_len hv).2
    by_cases h6:5000<(cumF ps (k+1)).length+(nxU ps ((lvU ps k).take (i+1))).length
    ·have hT:=hT0 (hlA _ rfl h6)
     rcases hA8.inv with ⟨e1,rfl,rfl⟩|⟨b8,c8,rfl,rfl⟩
     ·rw[e1] at hml
      simp at hml
      omega
     ·have h6i:(5000:Int)<((cumF ps (k+1)).length:Nat)+((nxU ps ((lvU ps k).take (i+1))).length:Nat):=by omega
      simp only[go_sem,hxo,hval]
      repeat(first|((with_reducible refine AWp.ofC ?_ ?_);exact rfl;simp only[go_sem,z0,h6i,hxo])|((with_reducible refine an ?_ ?_);exact Au))
      refine Sd ?_
      repeat(first|((with_reducible refine AWp.ofC ?_ ?_);exact rfl;simp only[go_sem,h6i,hxo])|((with_reducible refine an ?_ ?_);exact Au))
      refine ret_sub [] (List.nil_sublist _) ?_
      simp only[go_sem]
      exact hT
    ·rcases hA8.inv with ⟨e1,rfl,rfl⟩|⟨b8,c8,rfl,rfl⟩
     ·have h6i:¬(5000:Int)<((cumF ps (k+1)).length:Nat)+((0:Nat):Int):=by omega
      have h6j:¬(5000:Int)<((cumF ps (k+1)).length:Nat):=by omega
      simp only[go_sem,hxo,hval]
      repeat(first|((with_reducible refine AWp.ofC ?_ ?_);exact rfl;simp only[go_sem,z0,h6i,h6j,hxo])|((with_reducible refine an ?_ ?_);exact Au))
      refine Sd ?_
      repeat(first|((with_reducible refine AWp.ofC ?_ ?_);exact rfl;simp only[go_sem,h6i,h6j,hxo])|((with_reducible refine an ?_ ?_);exact Au))
      exact⟨_,List.Sublist.refl _,_,_,ks,us,setC ps c,rfl,by omega,hA8,hMp,.refl _⟩
     ·have h6i:¬(5000:Int)<((cumF ps (k+1)).length:Nat)+((nxU ps ((lvU ps k).take (i+1))).length:Nat):=by omega
      simp only[go_sem,hxo,hval]
      repeat(first|((with_reducible refine AWp.ofC ?_ ?_);exact rfl;simp only[go_sem,z0,h6i,hxo])|((with_reducible refine an ?_ ?_);exact Au))
      refine Sd ?_
      repeat(first|((with_reducible refine AWp.ofC ?_ ?_);exact rfl;simp only[go_sem,h6i,hxo])|((with_reducible refine an ?_ ?_);exact Au))
      exact⟨_,List.Sublist.refl _,_,_,ks,us,setC ps c,rfl,by omega,by rw[List.length_map] at hA8;exact hA8,hMp,.refl _⟩
  ·rintro vs L - ⟨v8,L8,ks,us,f,rfl,h5i,hA8,hMp,hL⟩
   rw[List.take_length] at h5i hA8 hMp
   have hc1:=hcum (k+1)
   have hc2:lvU ps (k+1)=nxU ps (lvU ps k):=rfl
   rw[← hc2] at h5i hA8 hMp
   have hml:((lvU ps (k+1)).map (txA ps)).length=(lvU ps (k+1)).length:=List.length_map _
   have hls:=levsA_succ ps (k+1)
   have hle:levA ps (k+1) = .sl 1 ((lvU ps (k+1)).map (txA ps)):=rfl
   rw[hle] at hls
   refine AWp.perm hL ?_
   refine AWp.viewP (Lf:=L8) (Lk:=[(bd,.row 4 1 (bRow (off ps ps.length) f) (off ps ps.length)),(b5,.row 139 1 (levsA ps (k+1)) cap5),(b7,.amap ks us)]) (L':=[(bd,.row 4 1 (bRow (off ps ps.length) f) (off ps ps.length)),(b5,.row 139 1 (levsA ps (k+1)) cap5),(b7,.amap ks us)]) (List.perm_append_comm (l₁:=[(bd,_),(b5,_),(b7,_)]) (l₂:=L8)) (LVw.refl _) [(8,.sl 1 ((lvU ps (k+1)).map (txA ps)))] (fun q hq => ?_) ?_
   ·obtain rfl:=List.mem_singleton.1 hq
    simp only[go_sem]
    have:=hA8.vw []
    rwa [List.append_nil] at this
   generalize (lvU ps (k+1)).map (txA ps)=TX at *
   have hTXi:((cumF ps (k+1)).length:Int)+(TX.length:Nat)=((cumF ps (k+1+1)).length:Nat):=by omega
   simp only[go_sem,hxo,nb,nb',k1,k2,k3,k4]
   repeat(first|((with_reducible refine AWp.ofC ?_ ?_);exact rfl;simp only[go_sem,hxo,hTXi,hll,nb,nb',k1,k2,k3,k4])|((with_reducible refine an ?_ ?_);exact Au))
   intro b' cap'
   intros
   have m1:¬bd=b':=by first|omega|assumption
   have htl:(levsA ps (k+1)).take (k+1) ++ [.sl 1 TX]=levsA ps (k+1+1):=by rw[List.take_of_length_le (by rw[levsA_len];exact Nat.le_refl _),hls]
   rw[htl]
   exact⟨[(b',.row 139 1 (levsA ps (k+1+1)) cap'),(bd,.row 4 1 (bRow (off ps ps.length) f) (off ps ps.length))],.cons_cons _ (.cons_cons _ (List.nil_sublist _)),b',cap',f,rfl,by omega,m1,List.Perm.swap _ _ _⟩
 ·rintro vs L - ⟨b5,cap5,f,rfl,h5,nb,hL⟩
  have hlev:(levsA ps (off ps ps.length+1)).length=off ps ps.length+1:=levsA_len ps _
  refine AWp.perm (L':=[(b5,.row 139 1 (levsA ps (off ps ps.length+1)) cap5)] ++ [(bd,.row 4 1 (bRow (off ps ps.length) f) (off ps ps.length))]) (hL.trans (List.Perm.swap _ _ _)) ?_
  refine AWp.viewP (Lf:=[(b5,.row 139 1 (levsA ps (off ps ps.length+1)) cap5)]) (Lk:=[(bd,.row 4 1 (bRow (off ps ps.length) f) (off ps ps.length))]) (L':=[(bd,.row 4 1 (bRow (off ps ps.length) f) (off ps ps.length))]) (.refl _) (LVw.refl _) [(5,.sl 1 (levsA ps (off ps ps.length+1)))] (fun q hq => ?_) ?_
  ·obtain rfl:=List.mem_singleton.1 hq
   simp only[go_sem]
   exact Vw.ofLs (t:=139) (cap:=cap5) (if_pos rfl) hlev.symm
  have hTok:∀b ks us g,MpS ks us (ai 0) g→g (txC ps (zeroC ps))=ai (satV (wayV ps (zeroC ps)))→TabR ps (.tup [.lm b,ai 0]) [(b,.amap ks us)]:=fun b ks us g h1 h2 => .inr ⟨by rw[← hcut];exact h5,b,ks,us,g,rfl,rfl,h1,h2⟩
  have hNi:((off ps ps.length+1:Nat):Int) - 1=((off ps ps.length+1:Nat):Int) - 1:=rfl
  simp only[go_sem,hxo]
  refine W1 hxo ?_
  intro b13 g13
  have k1:¬bd=b13:=by omega
  have k2:¬b13=bd:=by omega
  refine W2 hxo hlev ?_
  refine AWp.block (AWp.loopN [14] [4,5,13] (fun m vs L=>vs=[ai ((m:Int) - 1)]∧m≤off ps ps.length+1∧∃ks us f g,L.Perm [(bd,.row 4 1 (bRow (off ps ps.length) f) (off ps ps.length)),(b13,.amap ks us)]∧MpS ks us (ai 0) g∧∀c,isF ps c=true→(m:Int)≤c.sum→g (txC ps c)=ai (satV (wayV ps c))) (off ps ps.length+1) ⟨rfl,Nat.le_refl _,[],[],f,_,List.Perm.swap _ _ _,MpS.nil _,fun c hc hm => ?_⟩ ?_)
  ·have h1:=leq_sum (leq_full hc)
   rw[fullC_sum] at h1
   omega
  ·rintro m vs L - ⟨rfl,hmN,ks,us,f,g,hL,hMp,hg⟩
   refine AWp.perm hL ?_
   cases m with
   | zero =>
    have z0:¬(0:Int)≤((0:Nat):Int) - 1:=by omega
    have hgz:=hg (zeroC ps) (zeroC_is ps) (by
     have:(zeroC ps).sum=0:=by
      have:=(mem_lvU hv 0 (zeroC ps)).1 (by show zeroC ps ∈ [zeroC ps];simp)
      simpa using this.2
     omega)
    simp only[go_sem,hxo]
    refine W2 z0 hxo ?_
    refine ret_sub [(b13,.amap ks us)] (.cons _ (List.Sublist.refl _)) ?_
    simp only[go_sem]
    exact hTok b13 ks us g hMp hgz
   | succ m =>
    have z0:(0:Int)≤(m:Int):=by omega
    have hm1:((m+1:Nat):Int) - 1=(m:Int):=by omega
    have hge:=levsA_get (ps:=ps) (show m<off ps ps.length+1 by omega)
    have hlv:levA ps m = .sl 1 ((lvU ps m).map (txA ps)):=rfl
    have hlm:((lvU ps m).map (txA ps)).length=(lvU ps m).length:=List.length_map _
    rw[hlv] at hge
    have hcl1:=hcum m
    have hcl2:=hmono (m+1) (off ps ps.length+1) (by omega)
    rw[hm1]
    simp only[go_sem,hxo]
    refine W5 z0 hxo hge hlev hlm ?_
    refine AWp.range' (lvU ps m).length [] [4,5,13,14,107,108] (fun i vs L=>vs=[]∧∃ks us f g,L.Perm [(bd,.row 4 1 (bRow (off ps ps.length) f) (off ps ps.length)),(b13,.amap ks us)]∧MpS ks us (ai 0) g∧(∀c,isF ps c=true→((m+1:Nat):Int)≤c.sum→g (txC ps c)=ai (satV (wayV ps c)))∧∀c ∈ (lvU ps m).take i,g (txC ps c)=ai (satV (wayV ps c))) (by omega) rfl rfl (by first|rfl|exact congrArg (fun z:Nat=>ai (z:Int)) hlm) ⟨rfl,ks,us,f,g,.refl _,hMp,hg,fun c hc=>by rw[List.take_zero] at hc;cases hc⟩ ?_ ?_
    ·rintro i vs L hi - ⟨rfl,ks,us,f,g,hL,hMp,hg,hgi⟩
     have hcm:=(mem_lvU hv m _).1 (List.getElem_mem hi)
     have hgt:((lvU ps m).map (txA ps)).getD i .any=txA ps (lvU ps m)[i]:=getD_map hi
     have htk:=take_mem hi
     have htF:∀c ∈ (lvU ps m).take i,isF ps c=true:=fun c hc=>((mem_lvU hv m c).1 (List.mem_of_mem_take hc)).1
     generalize (lvU ps m)[i]=c at *
     obtain⟨hcF,hcs⟩:=hcm
     have hcl:=(isF_iff.1 hcF).1
     have hNL:((List.range (off ps ps.length)).filter (nxN (off ps ps.length) (fun i j=>ordZ ps j i) (setC ps c))).length=(enF ps c ps.length).length:=by rw[nx_list hv hcF,List.length_map]
     have hnx:=fun a j h1 h2 h3=>(hnext (setC ps c) a j h1 h2 h3:PC _ _ _ (ai (valX ps c j)))
     refine AWp.perm hL ?_
     simp only[go_sem,hxo]
     refine W2 hxo hgt ?_
     have hld:=hload f (setC ps c) bd
     refine(MVal.frame (Lm:=[(bd,_)]) (Lr:=[(b13,.amap ks us)]) hld.val).mono ?_
     rintro r L ⟨L1,rfl,rfl,rfl⟩
     simp only[go_sem,List.cons_append,List.nil_append,hxo]
     refine W1 hxo ?_
     have hn0:=hnx 0 0 (Nat.zero_le _) (Nat.zero_le _) (by simp)
     refine(PC.view (hvw (setC ps c) [(bd,.row 4 1 (bRow (off ps ps.length) (setC ps c)) (off ps ps.length)),(b13,.amap ks us)] [ai ((0:Nat):Int)] (if_pos rfl)) hn0 (Own.v _) ?_).val
     simp only[go_sem,hxo]
     refine W1 hxo ?_
     have hS0:satV (((enF ps c ps.length).take 0).map fun p=>wayV ps (stpC c p)).sum=0:=by rw[List.take_zero];rfl
     refine AWp.block (AWp.loopN [17,18] [4,5,13,14,16,107,108,109] (fun z vs L=>∃j a,z=(enF ps c ps.length).length - j∧j≤(enF ps c ps.length).length∧a≤off ps ps.length∧(List.range a).filter (nxN (off ps ps.length) (fun i j=>ordZ ps j i) (setC ps c))=((List.range (off ps ps.length)).filter (nxN (off ps ps.length) (fun i j=>ordZ ps j i) (setC ps c))).take j∧vs=[ai (satV (((enF ps c ps.length).take j).map fun p=>wayV ps (stpC c p)).sum),ai (valX ps c j)] ∧
      L=[(bd,.row 4 1 (bRow (off ps ps.length) (setC ps c)) (off ps ps.length)),(b13,.amap ks us)]) (enF ps c ps.length).length ⟨0,0,rfl,Nat.zero_le _,Nat.zero_le _,by simp,by rw[hS0];rfl,rfl⟩ ?_)
     rintro z vs L - ⟨j,a,rfl,hjM,haN,hfa,rfl,rfl⟩
     by_cases hj:j<(enF ps c ps.length).length
     ·obtain⟨p,i',hp,hi',hic,hst,hpj,hnx1,hnb⟩:=nx_elem hv hcF hj
      have hval:valX ps c j=((off ps p+i':Nat):Int):=by unfold valX;rw[hnx1]
      have z1:(0:Int)≤((off ps p+i':Nat):Int):=by omega
      have hxN:=off_lt hp hi'
      obtain⟨rs1,rs2⟩:=row_step hcl hp hi' hic
      have hg1:=bRow_get (f:=setC ps c) hxN
      have hg2:=bRow_get (f:=setC ps (stpC c p)) hxN
      have hb1:=bRow_len (n:=off ps ps.length) (f:=setC ps c)
      have hb2:=bRow_len (n:=off ps ps.length) (f:=setC ps (stpC c p))
      have hxt:(((off ps p+i':Nat):Int)).toNat=off ps p+i':=rfl
      obtain⟨x',hx1,_,_,_,_,hx2⟩:=filter_step (by rw[hNL];exact hj) haN hfa
      rw[hnx1] at hx1
      have hx1:=Option.some.inj hx1
      subst hx1
      have hnx2:=hnx (off ps p+i'+1) (j+1) (by omega) (by rw[hNL];exact hj) hx2
      have hxi:((off ps p+i':Nat):Int)+1=((off ps p+i'+1:Nat):Int):=by omega
      have hkey2:=hkey (setC ps (stpC c p))
      change PC _ _ _ (.v (.string (txC ps (stpC c p)))) at hkey2
      have hget:=hMp.get (txC ps (stpC c p))
      rw[hg (stpC c p) hst (by rw[sum_stpC (by omega),hcs];omega)] at hget
      have hfit:=hMp.fits
      have hsu:(((enF ps c ps.length).take (j+1)).map fun p=>wayV ps (stpC c p)).sum=(((enF ps c ps.length).take j).map fun p=>wayV ps (stpC c p)).sum+wayV ps (stpC c p):=by
       rw[List.take_succ_eq_append_getElem hj,List.map_append,List.sum_append,hpj];simp
      have hadd:=satV_add (((enF ps c ps.length).take j).map fun p=>wayV ps (stpC c p)).sum (wayV ps (stpC c p))
      rw[← hsu] at hadd
      have c1:=satV_le (((enF ps c ps.length).take j).map fun p=>wayV ps (stpC c p)).sum
      have c2:=satV_le (wayV ps (stpC c p))
      generalize hy3:satV (((enF ps c ps.length).take (j+1)).map fun p=>wayV ps (stpC c p)).sum=y3 at *
      generalize satV (((enF ps c ps.length).take j).map fun p=>wayV ps (stpC c p)).sum=y1 at *
      generalize satV (wayV ps (stpC c p))=y2 at *
      simp only[go_sem,hxo,hval]
      repeat(first|((with_reducible refine AWp.ofC ?_ ?_);exact rfl;simp only[go_sem,z1,hxo,hxs,hxt,hg1,hb1,rs1,k1,k2])|((with_reducible refine an ?_ ?_);exact Au))
      refine(PC.view (hvw (setC ps (stpC c p)) [(bd,.row 4 1 (bRow (off ps ps.length) (setC ps (stpC c p))) (off ps ps.length)),(b13,.amap ks us)] [] (if_pos rfl)) hkey2 (Own.v _) ?_).val
      simp only[go_sem,hxo,hget,hfit,k1,k2]
      refine Sd ?_
      repeat(first|((with_reducible refine AWp.ofC ?_ ?_);exact rfl;simp only[go_sem,hget,hfit,hadd,hxo,hxs,hxt,hg2,hb2,rs2,k1,k2])|((with_reducible refine an ?_ ?_);exact Au))
      refine(PC.view (hvw (setC ps c) [(bd,.row 4 1 (bRow (off ps ps.length) (setC ps c)) (off ps ps.length)),(b13,.amap ks us)] [ai ((off ps p+i'+1:Nat):Int)] (if_pos rfl)) hnx2 (Own.v _) ?_).val
      simp only[go_sem,hxo]
      refine W1 hxo ?_
      exact⟨_,List.Sublist.refl _,(enF ps c ps.length).length - (j+1),by omega,j+1,off ps p+i'+1,rfl,hj,by omega,hx2,by rw[hy3];rfl,rfl⟩
     ·have hval:valX ps c j = -1:=valX_end hv hcF (by omega)
      have z1:¬(0:Int) ≤ -1:=by decide
      have htk2:(enF ps c ps.length).take j=enF ps c ps.length:=List.take_of_length_le (by omega)
      rw[htk2]
      obtain⟨ks',us',hput,hMp'⟩:=hMp.put (txC ps c) (ai (satV (wayV ps c)))
      have hfit:=hMp.fits
      have hfin:MpS ks' us' (ai 0) (fun t=>if t=txC ps c then ai (satV (wayV ps c)) else g t)∧(∀d,isF ps d=true→((m+1:Nat):Int)≤d.sum→(if txC ps d=txC ps c then ai (satV (wayV ps c)) else g (txC ps d))=ai (satV (wayV ps d)))∧∀d ∈ (lvU ps m).take (i+1),(if txC ps d=txC ps c then ai (satV (wayV ps c)) else g (txC ps d))=ai (satV (wayV ps d)):=by
       refine⟨hMp',fun d hd hds => ?_,fun d hd => ?_⟩
       ·by_cases e:txC ps d=txC ps c
        ·rw[if_pos e,txC_inj hd hcF e]
        ·rw[if_neg e];exact hg d hd hds
       ·rcases (htk d).1 hd with h|h
        ·by_cases e:txC ps d=txC ps c
         ·rw[if_pos e,txC_inj (htF d h) hcF e]
         ·rw[if_neg e];exact hgi d h
        ·rw[h,if_pos rfl]
      obtain⟨hf1,hf2,hf3⟩:=hfin
      by_cases hmN2:m=off ps ps.length
      ·have hmi:(m:Int)=(off ps ps.length:Int):=by omega
       have hw1:wayV ps c=1:=wayV_full (by rw[hcs,hmN2])
       have hs1:satV (wayV ps c)=1:=by rw[hw1];rfl
       rw[hs1] at hput
       simp only[go_sem,hxo,hval]
       repeat(first|((with_reducible refine AWp.ofC ?_ ?_);exact rfl;simp only[go_sem,z1,hmi,hput,hfit,hxo,hxs,k1,k2])|((with_reducible refine an ?_ ?_);exact Au))
       exact⟨_,List.Sublist.refl _,ks',us',setC ps c,_,.refl _,hf1,hf2,hf3⟩
      ·have hmi:¬(m:Int)=(off ps ps.length:Int):=by omega
       have hws:=wayV_stp hcF (by omega)
       rw[hcl] at hws
       rw[← hws]
       generalize satV (wayV ps c)=y at *
       simp only[go_sem,hxo,hval]
       repeat(first|((with_reducible refine AWp.ofC ?_ ?_);exact rfl;simp only[go_sem,z1,hmi,hput,hfit,hxo,hxs,k1,k2])|((with_reducible refine an ?_ ?_);exact Au))
       exact⟨_,List.Sublist.refl _,ks',us',setC ps c,_,.refl _,hf1,hf2,hf3⟩
    ·rintro vs L - ⟨rfl,ks,us,f,g,hL,hMp,hg,hgi⟩
     rw[List.take_length] at hgi
     simp only[go_sem,hxo]
     refine W1 hxo ?_
     refine⟨_,List.Sublist.refl _,m,by omega,?_,by omega,ks,us,f,g,hL,hMp,fun c hc hmc => ?_⟩
     ·rfl
     ·by_cases e:c.sum=(m:Int)
      ·exact hgi c ((mem_lvU hv m c).2 ⟨hc,e⟩)
      ·exact hg c hc (by omega)
end
end Go.AL
end
