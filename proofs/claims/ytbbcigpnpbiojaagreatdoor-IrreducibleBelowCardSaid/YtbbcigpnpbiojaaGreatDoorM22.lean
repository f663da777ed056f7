/- Texts of this claim's proof: WI34, WK4, WK5, WI26, WK6. No condition. -/
import Derived.Test.YtbbcigpnpbiojaaGreatDoorM21
import Derived.Test.YtbbcigpnpbiojaaGreatDoorM19
section
namespace Go.AL
open Go Go.RowKit
set_option maxRecDepth 4000
theorem seenL_snoc {h:Tms} {i:Nat} (hi:i<h.length) (vis:List Nat):seenL h (vis ++ [i])=seenL h vis ++ [h[i]]:=by
 unfold seenL
 rw[List.map_append,List.map_cons,List.map_nil,getD_a0 hi]
theorem mvI_snoc {h:Tms} {i:Nat} (hi:i<h.length) (vis:List Nat):mvI (seenL h (vis ++ [i]))=mvIs (mvI (seenL h vis)) h[i]:=by
 unfold mvI
 rw[seenL_snoc hi,List.foldl_append];rfl
set_option maxHeartbeats 2000000 in
theorem irr_movers (c:Int) (h:Tms):MCalls Proofs.Tryz.prog 83 [.agg [ai c,.rm (keysT h) (valsT h)]] [] fun r L=>L=[]∧∃h',h'.Perm h∧r = .tup [ai (mvI h').1,ai (mvI h').2]:=by
 have hkl:=keysT_len h
 refine MCalls.enter' 43 [.tmp 2,.tmp 3] [1,4] Proofs.Tryz.func83 rfl rfl rfl rfl rfl (by simp) (AWp.of ?_);simp only[go_sem]
 refine Wk ?_
 refine AOp.rangeMap (ks:=keysT h) (vs:=valsT h) (kt:=189) (et:=3) rfl tinfo_iatoms (fun i hi=>by cases hi;decide) rfl ?_
 intro bi g3
 simp only[go_sem] at g3 ⊢
 refine Wk ?_
 refine AWp.block (AWp.loopN [2,3] [8] (fun m vs L=>∃vis,m=h.length - vis.length∧vis.Nodup∧(∀i ∈ vis,i<h.length)∧vs=[ai (mvI (seenL h vis)).1,ai (mvI (seenL h vis)).2]∧L=[(bi,.iter (keysT h) (valsT h) vis)]) h.length ⟨[],rfl,.nil,by simp,rfl,rfl⟩ ?_)
 rintro m vs L - ⟨vis,rfl,hvn,hvl,rfl,rfl⟩
 have hstep:=fun i (hi:i<h.length) (hn:i ∉ vis)=>vis_lt hvn hvl hi hn
 have hsn:=fun i (hi:i<h.length)=>mvI_snoc hi vis
 simp only[go_sem]
 refine Sd ?_
 refine AWp.of ?_;simp only[go_sem]
 refine AOp.nextMap (ks:=keysT h) (vs:=valsT h) (vis:=vis) (b:=bi) rfl ?_ rfl (if_pos rfl) (fun hall => ?_) ?_
 ·intro i hi;cases hi;decide
 ·rw[hkl] at hall
  have hp:=seenL_all hvn hvl hall
  simp only[go_sem]
  refine Wk ?_
  refine ret_viewK [] _ ⟨rfl,seenL h vis,hp,rfl⟩ ?_
  simp only[go_sem]
  exact .refl _
 ·intro i hi hn
  rw[hkl] at hi
  obtain⟨hvn',hvl',hvc⟩:=hstep i hi hn
  have hsn:=hsn i hi
  generalize mvI (seenL h vis)=st at *
  obtain⟨up,dn⟩:=st
  unfold mvIs at hsn
  simp only[go_sem]
  refine Wk ?_
  refine AOp.entryMap (ks:=keysT h) (vs:=valsT h) (vis:=vis) (i:=i) (b:=bi) rfl ?_ rfl (if_pos rfl) ?_
  ·intro i hi;cases hi;decide
  simp only[go_sem,keysT_getD hi,valsT_getD hi,zav_atmV]
  intro b4 g4
  have n1:¬bi=b4:=by omega
  have n2:¬b4=bi:=by omega
  refine Sd ?_
  by_cases h4:h[i].1.1=4
  ·by_cases h5:0<h[i].2
   ·rw[if_pos ⟨h4,h5⟩] at hsn
    refine W4 h4 h5 n1 n2 ?_
    repeat(first|(with_reducible refine AWp.seq ?_)|(with_reducible refine AWp.block ?_))
    refine AWp.mix mixed [0,1,2,3,4,5] .done (by kernel_rfl) ?_;simp only[go_sem,n1,n2]
    refine W2 n1 n2 ?_
    exact⟨_,List.Sublist.refl _,_,hvc,vis ++ [i],rfl,hvn',hvl',by rw[hsn],rfl⟩
   ·rw[if_neg (fun e=>h5 e.2),if_pos h4] at hsn
    refine W4 h4 h5 n1 n2 ?_
    repeat(first|(with_reducible refine AWp.seq ?_)|(with_reducible refine AWp.block ?_))
    refine AWp.mix mixed [0,1,2,3,4,5] .done (by kernel_rfl) ?_;simp only[go_sem,n1,n2]
    refine W2 n1 n2 ?_
    exact⟨_,List.Sublist.refl _,_,hvc,vis ++ [i],rfl,hvn',hvl',by rw[hsn],rfl⟩
  ·rw[if_neg (fun e=>h4 e.1),if_neg h4] at hsn
   by_cases h5:0<h[i].2
   ·rw[if_pos h5] at hsn
    refine W4 h4 h5 n1 n2 ?_
    exact⟨_,List.Sublist.refl _,_,hvc,vis ++ [i],rfl,hvn',hvl',by rw[hsn],rfl⟩
   ·rw[if_neg h5] at hsn
    refine W4 h4 h5 n1 n2 ?_
    exact⟨_,List.Sublist.refl _,_,hvc,vis ++ [i],rfl,hvn',hvl',by rw[hsn],rfl⟩
theorem ownL_hit:∀(l:List Pd) (i:Nat) (hi:i<l.length),(∀j (h:j<l.length),j<i→¬0≤ownF l[j])→0≤ownF l[i]→ownL l=ownF l[i]
 | x :: l,0,_,_,h=>by
  have h:0≤ownF x:=h
  rw[ownL,if_pos h];rfl
 | x :: l,i+1,hi,h0,h=>by
  have hx:¬0≤ownF x:=h0 0 (by simp) (by omega)
  rw[ownL,if_neg hx]
  exact ownL_hit l i (Nat.lt_of_succ_lt_succ hi) (fun j hj hji=>h0 (j+1) (Nat.succ_lt_succ hj) (by omega)) h
theorem ownL_none:∀(l:List Pd),(∀j (h:j<l.length),¬0≤ownF l[j])→ownL l = -1
 | [],_=>by rw[ownL]
 | x :: l,h=>by
  have hx:¬0≤ownF x:=h 0 (by simp)
  rw[ownL,if_neg hx]
  exact ownL_none l fun j hj=>h (j+1) (Nat.succ_lt_succ hj)
theorem irr_owner (t:Pd):szF t≤1000000→PC Proofs.Tryz.prog 82 [aPd t] (ai (ownF t)):=by
 induction t using Pd.ind with
 | _ k n p q s l ih =>
 intro hz
 have hsz:szF (.mk k n p q s l)=szL l+1:=by rw[szF]
 have hll:=szL_len l
 have hch:∀i (hi:i<l.length),PC Proofs.Tryz.prog 82 [aPd l[i]] (ai (ownF l[i])):=fun i hi=>by
  have hm:=List.getElem_mem hi
  have:=szL_mem hm
  exact ih _ hm (by omega)
 clear ih
 have hof:=ownF_mk k n p q s l
 rw[hof,aPd_mk]
 by_cases hk:k=2∨k=3
 ·rw[if_pos hk]
  rcases hk with rfl|rfl
  all_goals
   refine PC.enter 29 [.tmp 2] [1,4] Proofs.Tryz.func82 rfl rfl rfl rfl rfl (by simp) (AWp.of ?_);simp only[go_sem]
   repeat(first|((with_reducible refine AWp.ofC ?_ ?_);exact rfl;simp only[go_sem,Int.reduceEq])|((with_reducible refine an ?_ ?_);exact Au))
   refine ret_eq ?_;simp only[go_sem]
 ·rw[if_neg hk]
  have k2:¬k=2:=fun e=>hk (.inl e)
  have k3:¬k=3:=fun e=>hk (.inr e)
  have hhit:=ownL_hit l
  have hnone:=ownL_none l
  clear hof
  generalize ownL l=R at *
  refine PC.enter 29 [.tmp 2] [1,4] Proofs.Tryz.func82 rfl rfl rfl rfl rfl (by simp) (AWp.of ?_);simp only[go_sem]
  refine W2 k2 k3 ?_
  refine AWp.range' l.length [] [17,18] (fun i vs L=>vs=[]∧L=[]∧∀j (h:j<l.length),j<i→¬0≤ownF l[j]) (by omega) rfl rfl rfl ⟨rfl,rfl,fun j _ h=>by omega⟩ ?_ ?_
  ·rintro i vs L hil - ⟨rfl,rfl,hI⟩
   have hgi:=getD_map (f:=aPd) hil
   have hci:=hch i hil
   have hhit:=hhit i hil hI
   have hI':¬0≤ownF l[i]→∀j (h:j<l.length),j<i+1→¬0≤ownF l[j]:=fun h j hj hji=>by
    by_cases e:j=i
    ·subst e;exact h
    ·exact hI j hj (by omega)
   obtain⟨k2,o2,p2,q2,s2,X2,hX⟩:=aPd_shape l[i]
   rw[hX] at hgi hci
   generalize ownF l[i]=o at *
   simp only[go_sem]
   refine W1 hgi ?_
   intro b4
   refine Sd ?_
   refine Wk ?_
   refine Sd ?_
   refine(hci).val.use ?_;simp only[go_sem]
   refine Wk ?_
   refine⟨fun h => ?_,fun h => ?_⟩
   ·refine Wk ?_
    refine ret_eq ?_;simp only[go_sem]
    rw[hhit h]
   ·refine Wk ?_
    exact⟨_,List.Sublist.refl _,rfl,hI' (by omega)⟩
  ·rintro vs L - ⟨rfl,rfl,hI⟩
   have hR:=hnone fun j hj=>hI j hj hj
   simp only[go_sem]
   refine Wk ?_
   refine ret_eq ?_;simp only[go_sem]
   rw[hR]
theorem irr_const (c:Int) (h:Tms):PC Proofs.Tryz.prog 132 [.agg [ai c,.rm (keysT h) (valsT h)]] (ab (decide (((keysT h).length:Int)=0))):=by
 refine PC.enter 7 [.tmp 2] [1] Proofs.Tryz.func132 rfl rfl rfl rfl rfl (by simp) (AWp.of ?_);simp only[go_sem]
 refine Wk ?_
 refine ret_eq ?_;simp only[go_sem]
theorem addT_eq {k c d:Int} {f g f' g':Tms} (hf:EqT f f') (hg:EqT g g') (hok:okA k c d f g=true):EqT (addT k f g) (addT k f' g'):=by
 have hok':=hok
 rw[okA_eq hf hg] at hok'
 unfold okA at hok hok'
 rw[Bool.and_eq_true] at hok hok'
 exact⟨addT_ok k hf.l g,addT_ok k hf.r g',fun v=>by rw[addT_s v g hg.l.nd hok.2,addT_s v g' hg.r.nd hok'.2,hf.eq,hg.eq]⟩
theorem irr_plusA {k c d:Int} {f g:Tms} {r:Int × Tms} (hr:adE k c d f g=some r) {f' g':Tms} (hf:EqT f' f) (hg:EqT g' g) (hc:NumB c) (hd:NumB d) (hk:NumB k) :
  MCalls Proofs.Tryz.prog 85 [.agg [ai c,.rm (keysT f') (valsT f')],.agg [ai d,.rm (keysT g') (valsT g')],ai k] [] fun r' L=>L=[]∧∃h,r' = .agg [ai r.1,.rm (keysT h) (valsT h)]∧EqT h r.2:=by
 obtain⟨hok,rfl⟩:=adE_some hr
 have hok':=hok
 rw[← okA_eq hf hg] at hok'
 refine(irr_plus c d k f' g' hc hd hk hf.l hg.l hok').mono ?_
 rintro r L ⟨rfl,h,rfl,hq⟩
 exact⟨rfl,h,rfl,hq.trans (addT_eq hf hg hok')⟩
set_option maxHeartbeats 4000000 in
theorem irr_linear (t:Pd):szF t≤1000000→IntOk t→∀g,linE t=some g→MCalls Proofs.Tryz.prog 84 [aPd t] [] fun r L=>L=[]∧∃h,r = .agg [ai g.1,.rm (keysT h) (valsT h)]∧EqT h g.2:=by
 induction t using Pd.ind with
 | _ k n p q s l ih =>
 intro hz hio g hE
 have hsz:szF (.mk k n p q s l)=szL l+1:=by rw[szF]
 have hch:∀x ∈ l,∀g,linE x=some g→MCalls Proofs.Tryz.prog 84 [aPd x] [] fun r L=>L=[]∧∃h,r = .agg [ai g.1,.rm (keysT h) (valsT h)]∧EqT h g.2:=fun x hx=>by
  have:=szL_mem hx
  exact ih x hx (by omega) ((int_parts hio).1 x hx)
 clear ih
 obtain⟨hsub,hc⟩:=int_parts hio
 rcases hc with ⟨hk,rfl⟩|⟨rfl,x,rfl⟩|⟨hk,x,y,rfl⟩
 ·have hL:=linE_lin _ hio g hE
  by_cases h1:k=1
  ·subst h1
   rw[linE_mk,linL_nil] at hE
   have h:(if (1:Int)=1 then some (n,[]) else _)=some g:=hE
   rw[if_pos rfl] at h
   cases h
   clear hL hE hch hsub hio
   simp only[aPd_mk,List.map_nil]
   refine MCalls.enter' 89 [.cell 2 132] [1,3,4,5] Proofs.Tryz.func84 rfl rfl rfl rfl rfl (by simp) (AWp.of ?_);simp only[go_sem]
   intro b2
   refine Wk ?_
   intro bm g1 b3 g2 g3
   have n1:¬b2=bm:=by omega
   have n2:¬bm=b2:=by omega
   refine Sd ?_
   repeat(first|((with_reducible refine AWp.ofC ?_ ?_);exact rfl;simp only[go_sem,n1,n2,Int.reduceEq])|((with_reducible refine an ?_ ?_);exact Au))
   intro bp g4 g5
   have n3:¬b2=bp:=by omega
   have n4:¬bp=b2:=by omega
   have n5:¬bm=bp:=by omega
   have n6:¬bp=bm:=by omega
   simp only[go_sem,n1,n2,n3,n4,n5,n6]
   refine Sd ?_
   refine W6 n1 n2 n3 n4 n5 n6 ?_
   refine ret_viewK [true,false,false] (.agg [ai n,.rm [] []]) ⟨rfl,[],rfl,.refl ok_nil⟩ ?_
   simp only[go_sem,n1,n2,n3,n4,n5,n6]
   exact .mkAgg (Vws.cons (.refl _) (Vws.cons (.lm (if_pos rfl) rfl (Vws.refl _).2) .nil))
  ·have hk3:k=2∨k=3∨k=4:=by omega
   have hok:OkT [((k,p,q,s),1)]:=(lin_leaf hk3 n p q s).ok
   rw[linE_mk,linL_nil] at hE
   have h:(if k=1 then some (n,[]) else if k=2∨k=3∨k=4 then some (0,[((k,p,q,s),1)]) else _)=some g:=hE
   rw[if_neg h1,if_pos hk3] at h
   cases h
   have hkey:Value.agg #[.int .i64 k,.int .i64 p,.int .i64 q,.string s]=atmV (k,p,q,s):=rfl
   have hfit:=atmV_fits (k,p,q,s)
   have hres:∃h,AV.agg [ai 0,.rm [atmV (k,p,q,s)] [ai 1]] = .agg [ai 0,.rm (keysT h) (valsT h)]∧EqT h [((k,p,q,s),1)]:=⟨_,rfl,.refl hok⟩
   clear hL hE hch hsub hio hk hz hsz
   generalize atmV (k,p,q,s)=kv at *
   simp only[aPd_mk,List.map_nil]
   rcases hk3 with rfl|rfl|rfl
   all_goals
    refine MCalls.enter' 89 [.cell 2 132] [1,3,4,5] Proofs.Tryz.func84 rfl rfl rfl rfl rfl (by simp) (AWp.of ?_);simp only[go_sem]
    intro b2
    refine Wk ?_
    intro bm g1 b3 g2 g3
    have n1:¬b2=bm:=by omega
    have n2:¬bm=b2:=by omega
    refine Sd ?_
    repeat(first|((with_reducible refine AWp.ofC ?_ ?_);exact rfl;simp only[go_sem,n1,n2,hkey,mput_nil,Int.reduceEq])|((with_reducible refine an ?_ ?_);exact Au))
    intro bp g4 g5
    have n3:¬b2=bp:=by omega
    have n4:¬bp=b2:=by omega
    have n5:¬bm=bp:=by omega
    have n6:¬bp=bm:=by omega
    simp only[go_sem,n1,n2,n3,n4,n5,n6]
    refine Sd ?_
    refine W6 n1 n2 n3 n4 n5 n6 ?_
    refine ret_viewK [true,false,false] (.agg [ai 0,.rm [kv] [ai 1]]) ⟨rfl,hres⟩ ?_
    simp only[go_sem,n1,n2,n3,n4,n5,n6]
    exact .mkAgg (Vws.cons (.refl _) (Vws.cons (.lm (if_pos rfl) rfl (Vws.refl _).2) .nil))
 ·obtain⟨a,ha,h'⟩:=linE_inv1 (by decide) (by decide) hE
  have hcx:=hch x (by simp) a ha
  have hLx:=linE_lin x (hsub x (by simp)) a ha
  have hpl:=fun h (hq:EqT h a.2)=>irr_plusA (f':=[]) (g':=h) h' (.refl ok_nil) hq (by unfold NumB;decide) hLx.num (by unfold NumB;decide)
  clear hch hsub hio hE h'
  obtain⟨k1,o1,p1,q1,s1,X1,hX⟩:=aPd_shape x
  simp only[aPd_mk,List.map_cons,List.map_nil,hX] at hcx ⊢
  refine MCalls.enter' 89 [.cell 2 132] [1,3,4,5] Proofs.Tryz.func84 rfl rfl rfl rfl rfl (by simp) (AWp.of ?_);simp only[go_sem]
  intro b2
  refine Wk ?_
  intro bm g1 b3 g2 g3
  have n1:¬b2=bm:=by omega
  have n2:¬bm=b2:=by omega
  refine Sd ?_
  refine AWp.viewP (Lf:=[(bm,.amap [] [])]) (Lk:=[(b2,.row 132 2 [.agg [.v (.int .i64 0),.v (.map none)]] 1)]) (L':=[(b2,.row 132 2 [.agg [.v (.int .i64 0),.v (.map none)]] 1)]) (List.Perm.refl _) (LVw.refl _) [(3,.rp 2 [.agg [ai 0,.rm [] []]] 0 0)] (fun z hz => ?_) ?_
  ·obtain rfl:=List.mem_singleton.1 hz
   show Vw _ (.rp 2 [.agg [.v (.int .i64 0),.lm bm]] 0 0) (.rp 2 [.agg [ai 0,.rm [] []]] 0 0)
   have hv:Vw [(bm,.amap [] [])] (.lm bm) (.rm [] []):=.lm (if_pos rfl) rfl (Vws.refl _).2
   exact .rp rfl (Vws.cons (.mkAgg (Vws.cons (.refl _) (Vws.cons hv .nil))) .nil).2
  simp only[go_sem]
  repeat(first|((with_reducible refine AWp.ofC ?_ ?_);exact rfl;simp only[go_sem,n1,n2,Int.reduceEq])|((with_reducible refine an ?_ ?_);exact Au))
  repeat(first|(with_reducible refine AWp.seq ?_)|(with_reducible refine AWp.block ?_))
  refine AWp.mix mixed [0,1,2,3,4] (.step 5 (.step 6 (.step 7 .done .done) .done) .done) (by kernel_rfl) ?_;simp only[go_sem,n1,n2]
  refine Sd ?_
  refine(MVal.frame (Lm:=[]) (Lr:=_) hcx.val).mono ?_
  rintro r L ⟨L1,rfl,rfl,h,rfl,hq⟩
  simp only[go_sem]
  refine(MVal.frame (Lm:=[]) (Lr:=_) (hpl h hq).val).mono ?_
  rintro r L ⟨L1,rfl,rfl,h2,rfl,hq2⟩
  simp only[go_sem,n1,n2]
  refine Sd ?_
  refine W2 n1 n2 ?_
  refine ret_viewK [] (.agg [ai g.1,.rm (keysT h2) (valsT h2)]) ⟨rfl,h2,rfl,hq2⟩ ?_
  simp only[go_sem,n1,n2]
  exact .refl _
 ·obtain⟨a,b,ha,hb,h'⟩:=linE_inv2 (by omega) (by omega) hE
  have hcx:=hch x (by simp) a ha
  have hcy:=hch y (by simp) b hb
  have hLx:=linE_lin x (hsub x (by simp)) a ha
  have hLy:=linE_lin y (hsub y (by simp)) b hb
  have nx:=hLx.num
  have ny:=hLy.num
  have n0:NumB 0:=by unfold NumB;decide
  have np:NumB 1:=by unfold NumB;decide
  have nm:NumB (-1):=by unfold NumB;decide
  clear hch hsub hio hE hLx hLy ha hb
  obtain⟨k1,o1,p1,q1,s1,X1,hX⟩:=aPd_shape x
  obtain⟨k2,o2,p2,q2,s2,X2,hY⟩:=aPd_shape y
  simp only[aPd_mk,List.map_cons,List.map_nil,hX,hY] at hcx hcy ⊢
  by_cases h6:k=6
  ·subst h6
   rw[if_pos rfl] at h'
   refine MCalls.enter' 89 [.cell 2 132] [1,3,4,5] Proofs.Tryz.func84 rfl rfl rfl rfl rfl (by simp) (AWp.of ?_);simp only[go_sem]
   intro b2
   refine Wk ?_
   intro bm g1 b3 g2 g3
   have n1:¬b2=bm:=by omega
   have n2:¬bm=b2:=by omega
   refine Sd ?_
   refine AWp.viewP (Lf:=[(bm,.amap [] [])]) (Lk:=[(b2,.row 132 2 [.agg [.v (.int .i64 0),.v (.map none)]] 1)]) (L':=[(b2,.row 132 2 [.agg [.v (.int .i64 0),.v (.map none)]] 1)]) (List.Perm.refl _) (LVw.refl _) [(3,.rp 2 [.agg [ai 0,.rm [] []]] 0 0)] (fun z hz => ?_) ?_
   ·obtain rfl:=List.mem_singleton.1 hz
    show Vw _ (.rp 2 [.agg [.v (.int .i64 0),.lm bm]] 0 0) (.rp 2 [.agg [ai 0,.rm [] []]] 0 0)
    have hv:Vw [(bm,.amap [] [])] (.lm bm) (.rm [] []):=.lm (if_pos rfl) rfl (Vws.refl _).2
    exact .rp rfl (Vws.cons (.mkAgg (Vws.cons (.refl _) (Vws.cons hv .nil))) .nil).2
   simp only[go_sem]
   repeat(first|((with_reducible refine AWp.ofC ?_ ?_);exact rfl;simp only[go_sem,n1,n2,Int.reduceEq])|((with_reducible refine an ?_ ?_);exact Au))
   repeat(first|(with_reducible refine AWp.seq ?_)|(with_reducible refine AWp.block ?_))
   refine AWp.mix mixed [0,1,2,3,5,6,7,8] (.step 4 (.step 9 (.step 10 (.step 11 .done .done) .done) .done) .done) (by kernel_rfl) ?_;simp only[go_sem,n1,n2]
   refine Sd ?_
   refine(MVal.frame (Lm:=[]) (Lr:=_) hcx.val).mono ?_
   rintro r L ⟨L1,rfl,rfl,h,rfl,hq⟩
   simp only[go_sem]
   refine Sd ?_
   refine(MVal.frame (Lm:=[]) (Lr:=_) hcy.val).mono ?_
   rintro r L ⟨L1,rfl,rfl,h2,rfl,hq2⟩
   simp only[go_sem]
   refine(MVal.frame (Lm:=[]) (Lr:=_) (irr_plusA h' hq hq2 nx ny np).val).mono ?_
   rintro r L ⟨L1,rfl,rfl,h3,rfl,hq3⟩
   simp only[go_sem,n1,n2]
   refine Sd ?_
   refine W2 n1 n2 ?_
   refine ret_viewK [] (.agg [ai g.1,.rm (keysT h3) (valsT h3)]) ⟨rfl,h3,rfl,hq3⟩ ?_
   simp only[go_sem,n1,n2]
   exact .refl _
  by_cases h7:k=7
  ·subst h7
   rw[if_neg (by decide),if_pos rfl] at h'
   refine MCalls.enter' 89 [.cell 2 132] [1,3,4,5] Proofs.Tryz.func84 rfl rfl rfl rfl rfl (by simp) (AWp.of ?_);simp only[go_sem]
   intro b2
   refine Wk ?_
   intro bm g1 b3 g2 g3
   have n1:¬b2=bm:=by omega
   have n2:¬bm=b2:=by omega
   refine Sd ?_
   refine AWp.viewP (Lf:=[(bm,.amap [] [])]) (Lk:=[(b2,.row 132 2 [.agg [.v (.int .i64 0),.v (.map none)]] 1)]) (L':=[(b2,.row 132 2 [.agg [.v (.int .i64 0),.v (.map none)]] 1)]) (List.Perm.refl _) (LVw.refl _) [(3,.rp 2 [.agg [ai 0,.rm [] []]] 0 0)] (fun z hz => ?_) ?_
   ·obtain rfl:=List.mem_singleton.1 hz
    show Vw _ (.rp 2 [.agg [.v (.int .i64 0),.lm bm]] 0 0) (.rp 2 [.agg [ai 0,.rm [] []]] 0 0)
    have hv:Vw [(bm,.amap [] [])] (.lm bm) (.rm [] []):=.lm (if_pos rfl) rfl (Vws.refl _).2
    exact .rp rfl (Vws.cons (.mkAgg (Vws.cons (.refl _) (Vws.cons hv .nil))) .nil).2
   simp only[go_sem]
   repeat(first|((with_reducible refine AWp.ofC ?_ ?_);exact rfl;simp only[go_sem,n1,n2,Int.reduceEq])|((with_reducible refine an ?_ ?_);exact Au))
   repeat(first|(with_reducible refine AWp.seq ?_)|(with_reducible refine AWp.block ?_))
   refine AWp.mix mixed [0,1,2,3,5,6,7,8] (.step 4 (.step 9 (.step 10 (.step 11 .done .done) .done) .done) .done) (by kernel_rfl) ?_;simp only[go_sem,n1,n2]
   refine Sd ?_
   refine(MVal.frame (Lm:=[]) (Lr:=_) hcx.val).mono ?_
   rintro r L ⟨L1,rfl,rfl,h,rfl,hq⟩
   simp only[go_sem]
   refine Sd ?_
   refine(MVal.frame (Lm:=[]) (Lr:=_) hcy.val).mono ?_
   rintro r L ⟨L1,rfl,rfl,h2,rfl,hq2⟩
   simp only[go_sem]
   refine(MVal.frame (Lm:=[]) (Lr:=_) (irr_plusA h' hq hq2 nx ny nm).val).mono ?_
   rintro r L ⟨L1,rfl,rfl,h3,rfl,hq3⟩
   simp only[go_sem,n1,n2]
   refine Sd ?_
   refine W2 n1 n2 ?_
   refine ret_viewK [] (.agg [ai g.1,.rm (keysT h3) (valsT h3)]) ⟨rfl,h3,rfl,hq3⟩ ?_
   simp only[go_sem,n1,n2]
   exact .refl _
  obtain rfl:k=8:=by omega
  rw[if_neg (by decide),if_neg (by decide)] at h'
  refine MCalls.enter' 89 [.cell 2 132] [1,3,4,5] Proofs.Tryz.func84 rfl rfl rfl rfl rfl (by simp) (AWp.of ?_);simp only[go_sem]
  intro b2
  refine Wk ?_
  intro bm g1 b3 g2 g3
  have n1:¬b2=bm:=by omega
  have n2:¬bm=b2:=by omega
  refine Sd ?_
  refine AWp.viewP (Lf:=[(bm,.amap [] [])]) (Lk:=[(b2,.row 132 2 [.agg [.v (.int .i64 0),.v (.map none)]] 1)]) (L':=[(b2,.row 132 2 [.agg [.v (.int .i64 0),.v (.map none)]] 1)]) (List.Perm.refl _) (LVw.refl _) [(3,.rp 2 [.agg [ai 0,.rm [] []]] 0 0)] (fun z hz => ?_) ?_
  ·obtain rfl:=List.mem_singleton.1 hz
   show Vw _ (.rp 2 [.agg [.v (.int .i64 0),.lm bm]] 0 0) (.rp 2 [.agg [ai 0,.rm [] []]] 0 0)
   have hv:Vw [(bm,.amap [] [])] (.lm bm) (.rm [] []):=.lm (if_pos rfl) rfl (Vws.refl _).2
   exact .rp rfl (Vws.cons (.mkAgg (Vws.cons (.refl _) (Vws.cons hv .nil))) .nil).2
  simp only[go_sem]
  repeat(first|((with_reducible refine AWp.ofC ?_ ?_);exact rfl;simp only[go_sem,n1,n2,Int.reduceEq])|((with_reducible refine an ?_ ?_);exact Au))
  refine AWp.cut [2,3,4,5] (fun vs L=>∃h h2,EqT h a.2∧EqT h2 b.2∧L=[(b2,.row 132 2 [.agg [.v (.int .i64 0),.v (.map none)]] 1)]∧vs=[.lp b2 2 0 0,.rp 2 [.agg [ai 0,.rm [] []]] 0 0,.rp 2 [.agg [ai a.1,.rm (keysT h) (valsT h)]] 0 0,.rp 2 [.agg [ai b.1,.rm (keysT h2) (valsT h2)]] 0 0]) ?_ ?_
  ·repeat(first|(with_reducible refine AWp.seq ?_)|(with_reducible refine AWp.block ?_))
   refine AWp.mix mixed [0,1,2,3,5,6,7,8] (.step 4 (.step 9 (.step 10 (.step 11 (.step 12 (.step 13 .done .done) .done) .done) (.step 11 (.step 10 (.step 12 (.step 13 .done .done) .done) .done) .done)) (.step 10 (.step 9 (.step 11 (.step 12 (.step 13 .done .done) .done) .done) (.step 11 (.step 9 (.step 12 (.step 13 .done .done) .done) .done) .done)) (.step 11 (.step 9 (.step 10 (.step 12 (.step 13 .done .done) .done) .done) (.step 10 (.step 9 (.step 12 (.step 13 .done .done) .done) .done) .done)) .done))) (.step 10 (.step 4 (.step 9 (.step 11 (.step 12 (.step 13 .done .done) .done) .done) (.step 11 (.step 9 (.step 12 (.step 13 .done .done) .done) .done) .done)) (.step 11 (.step 4 (.step 9 (.step 12 (.step 13 .done .done) .done) .done) .done) .done)) (.step 11 (.step 4 (.step 9 (.step 10 (.step 12 (.step 13 .done .done) .done) .done) (.step 10 (.step 9 (.step 12 (.step 13 .done .done) .done) .done) .done)) (.step 10 (.step 4 (.step 9 (.step 12 (.step 13 .done .done) .done) .done) .done) .done)) .done))) (by kernel_rfl) ?_;simp only[go_sem,n1,n2]
   clear h' h6 h7 hk hsz nx ny n0 np nm n1 n2 g1 g2 g3 hz hX hY
   repeat' (first|(with_reducible refine And.intro ?_ ?_)|(with_reducible intro _)|(refine(MVal.frame (Lm:=[]) (Lr:=_) hcx.val).mono ?_;rintro r L ⟨L1,rfl,rfl,h,rfl,hq⟩;simp only[go_sem])|(refine(MVal.frame (Lm:=[]) (Lr:=_) hcy.val).mono ?_;rintro r L ⟨L1,rfl,rfl,h2,rfl,hq2⟩;simp only[go_sem]))
   all_goals first|omega|skip
   all_goals try simp only[go_sem,Nat.ne_of_lt,Nat.ne_of_gt, *]
   all_goals exact⟨_,List.Sublist.refl _,h,h2,hq,hq2,rfl,rfl⟩
  ·rintro vs L - ⟨h,h2,hq,hq2,rfl,rfl⟩
   have hc:=irr_const a.1 h
   have hkl:=keysT_len h
   have hpl:=hq.perm.length_eq
   simp only[go_sem]
   refine Wk ?_
   refine Sd ?_
   refine(hc).val.use ?_;simp only[go_sem]
   refine Wk ?_
   refine⟨fun e => ?_,fun e => ?_⟩
   ·rw[if_pos (by omega)] at h'
    refine Wk ?_
    refine(MVal.frame (Lm:=[]) (Lr:=_) (irr_plusA (f':=[]) h' (.refl ok_nil) hq2 n0 ny nx).val).mono ?_
    rintro r L ⟨L1,rfl,rfl,h3,rfl,hq3⟩
    simp only[go_sem]
    refine Sd ?_
    refine Wk ?_
    refine ret_viewK [] (.agg [ai g.1,.rm (keysT h3) (valsT h3)]) ⟨rfl,h3,rfl,hq3⟩ ?_
    simp only[go_sem]
    exact .refl _
   ·rw[if_neg (by omega)] at h'
    split at h'
    ·refine Wk ?_
     refine(MVal.frame (Lm:=[]) (Lr:=_) (irr_plusA (f':=[]) h' (.refl ok_nil) hq n0 nx ny).val).mono ?_
     rintro r L ⟨L1,rfl,rfl,h3,rfl,hq3⟩
     simp only[go_sem]
     refine Sd ?_
     refine Wk ?_
     refine ret_viewK [] (.agg [ai g.1,.rm (keysT h3) (valsT h3)]) ⟨rfl,h3,rfl,hq3⟩ ?_
     simp only[go_sem]
     exact .refl _
    ·cases h'
theorem check_of {ps:List Pr} {t:Pd} (hv:validF ps=true) (hf:formedB t=true) (hr:allB (resB ps) t=true) (hty:typedB t=true) (hfi:fitB ps t=true):checkF ps t=0:=by
 unfold checkF
 rw[hv,hf,hr,hty,hfi];rfl
theorem formed_sub {k:Int} {l:List Pd} {x:Pd} (hx:x ∈ l) (h:formedB (nd k l)=true):formedB x=true:=by
 unfold formedB at *
 simp only[Bool.and_eq_true,decide_eq_true_eq] at *
 obtain⟨⟨h1,h2⟩,h3⟩:=h
 rw[nd_szF] at h1
 rw[nd_dpF] at h2
 rw[nd_allB,Bool.and_eq_true,List.all_eq_true] at h3
 have:=szL_mem hx
 have:=dpL_mem hx
 exact⟨⟨by omega,by omega⟩,h3.2 x hx⟩
theorem check_sub {ps:List Pr} {k:Int} (hk:9≤k) {l:List Pd} {x:Pd} (hx:x ∈ l) (h:checkF ps (nd k l)=0):checkF ps x=0:=by
 obtain⟨h1,h2,h3,h4⟩:=checkF_zero h
 unfold okT at h3
 rw[fit_nd ps hk,List.all_eq_true] at h4
 rw[nd_allB,nd_allB,nd_allB] at h3
 simp only[Bool.and_eq_true,List.all_eq_true] at h3
 exact check_of h1 (formed_sub hx h2) (h3.1.2.2 x hx) (h3.2.2 x hx) (h4 x hx)
theorem prd_of {ps:List Pr} {t:Pd} (h:checkF ps t=0) (h9:9≤t.kind):prdF t=0:=by
 obtain⟨_,h2,h3,_⟩:=checkF_zero h
 unfold okT at h3
 simp only[Bool.and_eq_true] at h3
 unfold prdF
 rw[h2,show typedB t=true from h3.2,res_of_bool h9];rfl
mutual
def cjF:Pd→List Pd
 | .mk k n p q s l=>if k=16∧(locR (.mk k n p q s l)).2=false then cjL l else [.mk k n p q s l]
def cjL:List Pd→List Pd
 | []=>[]
 | x :: r=>cjF x ++ cjL r
end
theorem cjF_nd (k:Int) (l:List Pd):cjF (nd k l)=if k=16∧(locR (nd k l)).2=false then cjL l else [nd k l]:=by unfold nd;rw[cjF]
theorem cjL_2 (x y:Pd):cjL [x,y]=cjF x ++ cjF y:=by rw[cjL,cjL,cjL,List.append_nil]
structure NfOk (ps:List Pr) (t:Pd):Prop where
 ok:PredOk t
 ck:checkF ps t=0
 nf:normF t false=t
theorem nf_of {ps:List Pr} {t:Pd} (h:checkF ps t=0) (hp:prdF t=0):NfOk ps (normF t false) :=
 ⟨(norm_ok t (prd_ok hp) false).ok,check_norm h hp false,norm_norm t (prd_ok hp) false false⟩
theorem nf_and {ps:List Pr} {x y:Pd} (h:NfOk ps (nd 16 [x,y])) (hx:PredOk x) (hy:PredOk y):NfOk ps x∧NfOk ps y:=by
 have h1:=h.nf
 rw[norm_bin 16 (.inl rfl)] at h1
 have h1:nd 16 [normF x false,normF y false]=nd 16 [x,y]:=h1
 unfold nd at h1
 simp only[Pd.mk.injEq,List.cons.injEq,and_true,true_and] at h1
 exact⟨⟨hx,check_sub (by decide) (by simp) h.ck,h1.1⟩,⟨hy,check_sub (by decide) (by simp) h.ck,h1.2⟩⟩
theorem NfOk.prd {ps:List Pr} {t:Pd} (h:NfOk ps t):prdF t=0:=prd_of h.ck h.ok.2.2
theorem nf_ind {ps:List Pr} {P:Pd→Prop} (one:∀t,NfOk ps t→¬(t.kind=16∧(locR t).2=false)→P t) (two:∀x y,NfOk ps (nd 16 [x,y])→(locR (nd 16 [x,y])).2=false→NfOk ps x→NfOk ps y→P x→P y→P (nd 16 [x,y])) (t:Pd) (h:NfOk ps t):P t:=by
 refine PredOk.ind (P:=fun t=>NfOk ps t→P t) ?_ ?_ ?_ ?_ ?_ t h.ok h
 ·intro k hk h
  exact one _ h fun e=>by have e1:k=16:=e.1;omega
 ·intro k x y hk _ _ h
  exact one _ h fun e=>by have e1:k=16:=e.1;omega
 ·intro x _ _ h
  exact one _ h fun e=>by have e1:(15:Int)=16:=e.1;omega
 ·intro k x y hk hx hy ihx ihy h
  by_cases e:k=16∧(locR (nd k [x,y])).2=false
  ·obtain⟨rfl,e2⟩:=e
   obtain⟨h1,h2⟩:=nf_and h hx hy
   exact two x y h e2 h1 h2 (ihx h1) (ihy h2)
  ·exact one _ h e
 ·intro k x hk _ _ h
  exact one _ h fun e=>by have e1:k=16:=e.1;omega
theorem cjF_one {t:Pd} (h:¬(t.kind=16∧(locR t).2=false)):cjF t=[t]:=by
 obtain⟨k,n,p,q,s,l⟩:=t
 rw[cjF]
 exact if_neg h
theorem nf_sz {ps:List Pr} {t:Pd} (h:NfOk ps t):szF t≤1000000:=by
 have:=(checkF_zero h.ck).2.1
 unfold formedB at this
 simp only[Bool.and_eq_true,decide_eq_true_eq] at this
 omega
theorem pt_ok {ps:List Pr} (t:Pd) (h:NfOk ps t):lnrF t=true→allB ntmB t=true→∀u ∈ cjF t,PartOk ps u:=by
 refine nf_ind (P:=fun t=>lnrF t=true→allB ntmB t=true→∀u ∈ cjF t,PartOk ps u) ?_ ?_ t h
 ·intro t h hn hl ht u hu
  rw[cjF_one hn] at hu
  obtain rfl:=List.mem_singleton.1 hu
  refine⟨h.ok,h.ck,ht,nf_sz h,?_⟩
  obtain⟨k,n,p,q,s,l⟩:=u
  rw[lnrF] at hl
  simp only[Bool.or_eq_true,Bool.and_eq_true,decide_eq_true_eq] at hl
  rcases hl with (((hl|hl)|hl)|hl)|hl
  ·exact .inl hl
  ·exact .inr (.inl hl)
  ·exact .inr (.inr hl)
  ·rw[allB_mk,Bool.and_eq_true] at ht
   have h1:(!decide (18≤k∧k≤21))=true:=ht.1
   rw[Bool.not_eq_true',decide_eq_false_iff_not] at h1
   omega
  ·by_cases e:(locR (.mk k n p q s l)).2=true
   ·exact .inl e
   ·exact absurd ⟨hl.1,by simpa using e⟩ hn
 ·intro x y h hloc hx hy ihx ihy hl ht u hu
  rw[cjF_nd,if_pos ⟨rfl,hloc⟩,cjL_2] at hu
  rw[lnrF_nd,hloc,lnrL_2] at hl
  rw[nd_allB] at ht
  simp only[Bool.and_eq_true,List.all_cons,List.all_nil,Bool.and_true] at ht
  have hc:cmpE (nd 16 [x,y])=none:=cmpE_no fun e=>by have e1:(16:Int)≤12:=e.2;omega
  have hb:bndF (nd 16 [x,y]) 1=false:=by unfold bndF;rw[hc]
  have ho:bothF (nd 16 [x,y])=false:=by unfold bothF;rw[hc]
  rw[hb,ho] at hl
  simp only[Bool.or_eq_true,Bool.and_eq_true,decide_eq_true_eq,Bool.false_eq_true,false_or] at hl
  rcases hl with hl|hl
  ·exact absurd hl (by decide)
  ·rcases List.mem_append.1 hu with hu|hu
   ·exact ihx hl.2.1 ht.2.1 u hu
   ·exact ihy hl.2.2 ht.2.2 u hu
theorem pt_tru {ps:List Pr} (o:Obs) (t:Pd) (h:NfOk ps t):truF o t=(cjF t).all (truF o):=by
 refine nf_ind (P:=fun t=>truF o t=(cjF t).all (truF o)) ?_ ?_ t h
 ·intro t h hn
  rw[cjF_one hn];simp
 ·intro x y h hloc hx hy ihx ihy
  rw[cjF_nd,if_pos ⟨rfl,hloc⟩,cjL_2,List.all_append,← ihx,← ihy]
  unfold nd
  rw[truF_mk];rfl
theorem pt_len {ps:List Pr} (t:Pd) (h:NfOk ps t):(cjF t).length≤szF t:=by
 refine nf_ind (P:=fun t=>(cjF t).length≤szF t) ?_ ?_ t h
 ·intro t h hn
  rw[cjF_one hn]
  obtain⟨k,n,p,q,s,l⟩:=t
  rw[szF];simp
 ·intro x y h hloc hx hy ihx ihy
  rw[cjF_nd,if_pos ⟨rfl,hloc⟩,cjL_2,nd_szF,List.length_append]
  simp only[szL]
  omega
theorem pt_ne {ps:List Pr} (t:Pd) (h:NfOk ps t):cjF t ≠ []:=by
 refine nf_ind (P:=fun t=>cjF t ≠ []) ?_ ?_ t h
 ·intro t h hn
  rw[cjF_one hn];simp
 ·intro x y h hloc hx hy ihx ihy
  rw[cjF_nd,if_pos ⟨rfl,hloc⟩,cjL_2]
  simp [ihx]
noncomputable def TruP (ps:List Pr) (t:Pd) (c:List Int):Prop:=truF (obC ps c) t=true
theorem evaluate_IntC (ps:List Pr) (hs:Sm ps) (c:List Int) (hcl:c.length≤1000000) (t:Pd) (hz:szF t≤1000000) (hck:checkF ps t=0) (hgv:givenF ps [c] []=0) (hcp:c.length=ps.length) (hk:t.kind≤8) (htm:allB ntmB t=true):PC Proofs.Tryz.prog 86 [aTr ps,aInts c,aPd t] (.tup [ai (valF (cutO ps c (undF ps c)) t),ai 0]):=by
 have hE:atE ps c t 1=0:=by
  unfold atE
  rw[if_neg (by omega),hck,if_neg (by decide),hgv,if_neg (by decide),res_of_int hk,if_neg (by decide),htm]
  rfl
 have h1:=evaluate_at ps hs c hcl t hz 1
 rw[hE] at h1
 obtain⟨g6,g7,g8,g9⟩:=checkF_zero hck
 have h3:atV ps c t=aView ps c (valuesAt ps c):=by unfold atV;rw[if_neg (by rintro(h|h|h);exact h hcp;exact h hck;exact h hgv)]
 have g10:=g8
 unfold okT at g10
 simp only[Bool.and_eq_true] at g10
 obtain⟨l1,l2⟩:=und_leaf2 ps hs c hgv t g10.1.2
 have hfi:(intF ps t).2.2=true:=by
  obtain⟨k,n,p,q,s,l⟩:=t
  rw[fitB_mk,if_pos (show k≤8 from hk)] at g9
  exact g9
 have h2:=view_number ps c _ _ hcl t hz g8 hk hfi l2 l1
 rw[h3] at h1
 generalize valF (cutO ps c (undF ps c)) t=b at *
 obtain⟨k,n,p,q,s,l⟩:=t
 unfold aView at *
 simp only[aPd_mk] at *
 refine PC.enter 23 [.tmp 6,.tmp 7] [3,5,8] Proofs.Tryz.func86 rfl rfl rfl rfl rfl (by simp) (AWp.of ?_);simp only[go_sem]
 refine Wk ?_
 refine Sd ?_
 refine(h1).val.use ?_;simp only[go_sem]
 refine Wk ?_
 intro b8
 refine Wk ?_
 refine Sd ?_
 refine(h2).val.use ?_;simp only[go_sem]
 refine Wk ?_
 refine ret_eq ?_;simp only[go_sem]
def aPt (t:Pd):AV:=match t with | .mk k n p q s l => .agg [ai k,ai n,ai p,ai q,astr s,.sl 6 (l.map aPd),ab (locR (.mk k n p q s l)).2]
def aPts (l:List Pd):AV:=.sl 7 (l.map aPt)
theorem aPt_shape (t:Pd):∃k n p q s X,aPd t = .agg [ai k,ai n,ai p,ai q,astr s,.sl 6 X]∧aPt t = .agg [ai k,ai n,ai p,ai q,astr s,.sl 6 X,ab (locR t).2]:=by
 obtain⟨k,n,p,q,s,l⟩:=t
 exact⟨k,n,p,q,s,l.map aPd,by rw[aPd_mk],rfl⟩
theorem forb_loc (ps:List Pr) (t:Pd) (hz:szF t≤1000000) (hl:(locR t).2=true) (c:List Int):PC Proofs.Tryz.prog 41 [aPt t,aTr ps,aInts c] (ai (fbF ps c t)):=by
 have e:fbF ps c t=ownF t:=by unfold fbF;rw[hl];rfl
 rw[e]
 have h1:=irr_owner t hz
 obtain⟨k,n,p,q,s,X,e1,e2⟩:=aPt_shape t
 rw[hl] at e2
 rw[e1] at h1
 rw[e2]
 generalize ownF t=o at *
 have hT:aTr ps = .agg [.sl 3 (ps.map aPr)]:=rfl
 have hC:aInts c = .sl 1 (c.map ai):=rfl
 rw[hT,hC]
 refine PC.enter 67 [.tmp 6] [3,4] Proofs.Tryz.func41 rfl rfl rfl rfl rfl (by simp) (AWp.of ?_);simp only[go_sem]
 refine Wk ?_
 refine Sd ?_
 refine(h1).val.use ?_;simp only[go_sem]
 refine Wk ?_
 refine ret_eq ?_;simp only[go_sem]
theorem int_check {ps:List Pr} {k:Int} (hk:k=9∨k=10∨k=11∨k=12) {x y:Pd} (h:checkF ps (nd k [x,y])=0):checkF ps x=0∧checkF ps y=0:=⟨check_sub (by omega) (by simp) h,check_sub (by omega) (by simp) h⟩
set_option maxHeartbeats 4000000 in
theorem forb_cmp (ps:List Pr) (hs:Sm ps) (k:Int) (x y:Pd) (g:Int × Tms) (h:PartOk ps (nd k [x,y])) (hl:(locR (nd k [x,y])).2=false) (hc:CmpPt ps k x y g) (c:List Int) (hcf:isF ps c=true) :
  PC Proofs.Tryz.prog 41 [aPt (nd k [x,y]),aTr ps,aInts c] (ai (fbF ps c (nd k [x,y]))):=by
 rw[fb_cmp hl hc c]
 have hv:=(checkF_zero h.ck).1
 have hzt:=h.sz
 rw[nd_szF] at hzt
 simp only[szL] at hzt
 have hcl:c.length=ps.length:=(isF_iff.1 hcf).1
 have h8:=(valid_len hv).2
 obtain⟨ckx,cky⟩:=int_check hc.k4 h.ck
 have hnt:=h.ntm
 rw[nd_allB] at hnt
 simp only[Bool.and_eq_true,List.all_cons,List.all_nil,Bool.and_true] at hnt
 have v1:=evaluate_IntC ps hs c (by omega) x (by omega) ckx ((isF_given hv).2 hcf) hcl hc.ix.2.2 hnt.2.1
 have v2:=evaluate_IntC ps hs c (by omega) y (by omega) cky ((isF_given hv).2 hcf) hcl hc.iy.2.2 hnt.2.2
 have hE:=hc.hl
 unfold dfP at hE
 obtain⟨a,b,ha,hb,h'⟩:=linE_inv2 (by decide) (by decide) hE
 rw[if_neg (by decide),if_pos rfl] at h'
 have hcx:=irr_linear x (by omega) hc.ix a ha
 have hcy:=irr_linear y (by omega) hc.iy b hb
 have nx:=(linE_lin x hc.ix a ha).num
 have ny:=(linE_lin y hc.iy b hb).num
 have nm:NumB (-1):=by unfold NumB;decide
 have hpm:=fun (b:Prop) (d:Decidable b) (f:Tms) (hp:f.Perm g.2) => @fb_perm ps k x y g hc b d f hp
 have hk4:=hc.k4
 have hP:aPt (nd k [x,y]) = .agg [ai k,ai 0,ai 0,ai 0,astr ByteArray.empty,.sl 6 [aPd x,aPd y],ab false]:=by
  have:aPt (nd k [x,y]) = .agg [ai k,ai 0,ai 0,ai 0,astr ByteArray.empty,.sl 6 [aPd x,aPd y],ab (locR (nd k [x,y])).2]:=rfl
  rw[this,hl]
 rw[hP]
 obtain⟨k1,o1,p1,q1,s1,X1,hX⟩:=aPd_shape x
 obtain⟨k2,o2,p2,q2,s2,X2,hY⟩:=aPd_shape y
 simp only[hX,hY] at *
 have hT:aTr ps = .agg [.sl 3 (ps.map aPr)]:=rfl
 have hC:aInts c = .sl 1 (c.map ai):=rfl
 rw[hT,hC] at v1 v2 ⊢
 generalize valF (obC ps c) x=vx at *
 generalize valF (obC ps c) y=vy at *
 generalize ps.map aPr=T at *
 generalize c.map ai=CC at *
 clear hE ha hb hc hcf h hnt hcl ckx cky hl hP hs hT hC hX hY
 refine PC.enter 67 [.tmp 6] [3,4] Proofs.Tryz.func41 rfl rfl rfl rfl rfl (by simp) (AWp.of ?_);simp only[go_sem]
 refine Wk ?_
 refine AWp.cut [2,3,4,7,8] (fun vs L=>∃f,f.Perm g.2∧L=[]∧vs=[.sl 1 CC,.rp 7 [.agg [ai k,ai 0,ai 0,ai 0,astr ByteArray.empty,.sl 6 [.agg [ai k1,ai o1,ai p1,ai q1,astr s1,.sl 6 X1],.agg [ai k2,ai o2,ai p2,ai q2,astr s2,.sl 6 X2]],ab false]] 0 0,.rp 1 [.agg [.sl 3 T]] 0 0,ai (mvI f).1,ai (mvI f).2]) ?_ ?_
 ·repeat(first|(with_reducible refine AWp.seq ?_)|(with_reducible refine AWp.block ?_))
  refine AWp.mix mixed [0,1,2,3,4,6,7,8,9,10] (.step 5 (.step 11 (.step 12 (.step 13 (.step 14 (.step 15 (.step 16 (.step 17 (.step 18 .done .done) .done) (.step 17 (.step 16 (.step 18 .done .done) .done) .done)) (.step 16 (.step 15 (.step 17 (.step 18 .done .done) .done) .done) .done)) .done) .done) .done) .done) .done) (by kernel_rfl) ?_;simp only[go_sem]
  refine Sd ?_
  refine(MVal.frame (Lm:=[]) (Lr:=_) hcx.val).mono ?_
  rintro r L ⟨L1,rfl,rfl,f1,rfl,q1⟩
  simp only[go_sem]
  refine Sd ?_
  refine(MVal.frame (Lm:=[]) (Lr:=_) hcy.val).mono ?_
  rintro r L ⟨L1,rfl,rfl,f2,rfl,q2⟩
  simp only[go_sem]
  refine(MVal.frame (Lm:=[]) (Lr:=_) (irr_plusA h' q1 q2 nx ny nm).val).mono ?_
  rintro r L ⟨L1,rfl,rfl,f3,rfl,q3⟩
  simp only[go_sem]
  refine(MVal.frame (Lm:=[]) (Lr:=_) (irr_movers g.1 f3).val).mono ?_
  rintro r L ⟨L1,rfl,rfl,f,hp,rfl⟩
  simp only[go_sem]
  refine Sd ?_
  exact⟨_,List.Sublist.refl _,f,hp.trans q3.perm,rfl,rfl⟩
 ·rintro vs L - ⟨f,hp,rfl,rfl⟩
  simp only[go_sem]
  refine Wk ?_
  refine⟨fun e => ?_,fun e => ?_⟩
  ·have hR:=hpm (vx - vy<0) inferInstance f hp
   rw[if_neg (fun h=>e h.1),if_neg (fun h=>e h.1)] at hR
   rw[if_neg (fun h=>e h.1),← hR]
   refine Wk ?_
   refine ret_eq ?_;simp only[go_sem]
  ·subst e
   have hR:=hpm (vx - vy<0) inferInstance f hp
   repeat(first|(with_reducible refine AWp.seq ?_)|(with_reducible refine AWp.block ?_))
   refine AWp.mix mixed [0,1,2,3,4,5,6,7,8,9,10,11,12] .done (by kernel_rfl) ?_;simp only[go_sem]
   refine Sd ?_
   refine Gc v1 ?_
   refine Sd ?_
   refine Wk ?_
   repeat(first|(with_reducible refine AWp.seq ?_)|(with_reducible refine AWp.block ?_))
   refine AWp.mix mixed [0,1,2,3,4,5,6,7,8,9,10,11,12] .done (by kernel_rfl) ?_;simp only[go_sem]
   refine Sd ?_
   refine Gc v2 ?_
   refine Sd ?_
   refine Wk ?_
   refine⟨fun e => ?_,fun e => ?_⟩
   ·rw[if_pos ⟨rfl,(by omega:vx - vy<0)⟩,if_pos ⟨rfl,(by omega:vx - vy<0)⟩] at hR
    rw[if_pos (by omega),← hR]
    refine Wk ?_
    refine ret_eq ?_;simp only[go_sem]
   ·rw[if_neg (fun h=>e (by omega)),if_neg (fun h=>e (by omega))] at hR
    rw[if_neg (by omega),← hR]
    refine Wk ?_
    refine ret_eq ?_;simp only[go_sem]
theorem irr_forbidden (ps:List Pr) (hs:Sm ps) (t:Pd) (h:PartOk ps t) (c:List Int) (hc:isF ps c=true):PC Proofs.Tryz.prog 41 [aPt t,aTr ps,aInts c] (ai (fbF ps c t)):=by
 cases hl:(locR t).2 with
 | true=>exact forb_loc ps t h.sz hl c
 | false =>
  obtain⟨k,x,y,g,rfl,hcp⟩:=part_cmp h hl
  exact forb_cmp ps hs k x y g h hl hcp c hc
end Go.AL
end
