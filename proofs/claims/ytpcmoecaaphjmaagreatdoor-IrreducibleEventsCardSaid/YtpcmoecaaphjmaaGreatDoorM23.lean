/- Texts of this claim's proof: WI33, WI34, WK4. No condition. -/
import Derived.Test.YtpcmoecaaphjmaaGreatDoorM19
import Derived.Test.YtpcmoecaaphjmaaGreatDoorM22
section
namespace Go.AL
open Go Go.RowKit
set_option maxRecDepth 4000
theorem tinfo_iatoms:tinfo Proofs.Tryz.prog 195=some ⟨.map 268 3,1,8,.v (.map none)⟩:=by simp only[go_sem]
def entT (a:Atm) (h:Tms):Tms:=match fdT a h with
 | some _=>h
 | none=>h ++ [(a,0)]
def posT (a:Atm) (h:Tms):Nat:=match fdT a h with
 | some i=>i
 | none=>h.length
theorem keysT_app (h g:Tms):keysT (h ++ g)=keysT h ++ keysT g:=List.map_append
theorem valsT_app (h g:Tms):valsT (h ++ g)=valsT h ++ valsT g:=List.map_append
theorem mentry_T (a:Atm) (h:Tms) (st:Int):mentry (atmV a) (ai 0) (keysT h) (valsT h) st = .amapE (keysT (entT a h)) (valsT (entT a h)) (posT a h) st:=by
 unfold mentry entT posT
 rw[mfind_T]
 cases fdT a h with
 | some i=>rfl
 | none=>simp only[keysT_app,valsT_app,keysT_len];rfl
theorem cfT_app_no {a:Atm} (h:Tms) (hn:fdT a h=none) (x:Int):cfT a (h ++ [(a,x)])=x∧cfT a h=0:=by
 induction h with
 | nil =>
  refine⟨?_,rfl⟩
  show (if a=a then x else 0)=x
  rw[if_pos rfl]
 | cons y h ih =>
  rw[fdT] at hn
  by_cases e:a=y.1
  ·rw[if_pos e] at hn;cases hn
  ·rw[if_neg e] at hn
   have hn':fdT a h=none:=by
    cases hf:fdT a h with
    | none=>rfl
    | some i=>rw[hf] at hn;cases hn
   rw[List.cons_append,cfT,cfT,if_neg e,if_neg e]
   exact ih hn'
theorem cfT_ent (a:Atm) (h:Tms):cfT a (entT a h)=cfT a h:=by
 unfold entT
 cases hf:fdT a h with
 | some i=>rfl
 | none =>
  obtain⟨h1,h2⟩:=cfT_app_no h hf 0
  show cfT a (h ++ [(a,0)])=_
  rw[h1,h2]
theorem set_T (a:Atm) (m:Int) (h:Tms):ABlk.amap (keysT (entT a h)) ((valsT (entT a h)).set (posT a h) (ai m)) = .amap (keysT (putT a m h)) (valsT (putT a m h)):=by
 rw[← mput_T]
 unfold mput entT posT
 rw[mfind_T]
 cases fdT a h with
 | some i=>rfl
 | none =>
  simp only[keysT_app,valsT_app]
  rw[← valsT_len h,List.set_append_right _ _ (Nat.le_refl _),Nat.sub_self]
  rfl
def CopI (f:Tms) (vis:List Nat) (h:Tms):Prop:=OkT h∧(∀v,sT v h=visT v f vis)∧∀(j:Nat) (hj:j<f.length),j ∉ vis→cfT f[j].1 h=0
theorem copI_step {f:Tms} {vis:List Nat} {h:Tms} (hf:OkT f) (hI:CopI f vis h) {i:Nat} (hi:i<f.length) (hv:i ∉ vis):CopI f (vis ++ [i]) (putT f[i].1 f[i].2 h):=by
 obtain⟨h1,h2,h3⟩:=hI
 obtain⟨hne,hnb⟩:=hf.co _ (List.getElem_mem hi)
 have hst:stT f[i].1 f[i].2 h=putT f[i].1 f[i].2 h:=by unfold stT;rw[if_neg hne]
 have hok:=(st_ok (a:=f[i].1) (m:=f[i].2) h1 hnb).1
 rw[hst] at hok
 refine⟨hok,fun v => ?_,fun j hj hjv => ?_⟩
 ·rw[sT_put,h2,h3 i hi hv,visT_snoc,getD_a0 hi,Int.sub_zero]
 ·rw[List.mem_append,List.mem_singleton,not_or] at hjv
  rw[cfT_put _ _ _ (getD_ne hf.nd hj hi hjv.2),h3 j hj hjv.1]
def PluI (k:Int) (f g:Tms) (vis:List Nat) (h:Tms):Prop:=OkT h∧(∀v,sT v h=sT v f+k * visT v g vis)∧∀(j:Nat) (hj:j<g.length),j ∉ vis→cfT g[j].1 h=cfT g[j].1 f
theorem pluI_step {k:Int} {f g:Tms} {vis:List Nat} {h:Tms} (hg:OkT g) (hI:PluI k f g vis h) {i:Nat} (hi:i<g.length) (hv:i ∉ vis) (hn:NumB (cfT g[i].1 h+k * g[i].2)):PluI k f g (vis ++ [i]) (stT g[i].1 (cfT g[i].1 h+k * g[i].2) h):=by
 obtain⟨h1,h2,h3⟩:=hI
 refine⟨(st_ok h1 hn).1,fun v => ?_,fun j hj hjv => ?_⟩
 ·rw[sT_st,h2 v,visT_snoc,getD_a0 hi,Int.mul_add]
  generalize g[i].2=n at *
  generalize cfT g[i].1 h=m at *
  generalize v g[i].1=w at *
  have e2:m+k * n - m=k * n:=by omega
  rw[e2,Int.mul_assoc]
  omega
 ·rw[List.mem_append,List.mem_singleton,not_or] at hjv
  rw[cfT_st _ _ _ (getD_ne hg.nd hj hi hjv.2),h3 j hj hjv.1]
theorem vis_lt {h:Tms} {vis:List Nat} {i:Nat} (hvn:vis.Nodup) (hvl:∀j ∈ vis,j<h.length) (hi:i<h.length) (hn:i ∉ vis):(vis ++ [i]).Nodup∧(∀j ∈ vis ++ [i],j<h.length)∧h.length - (vis ++ [i]).length<h.length - vis.length:=by
 have h1:(vis ++ [i]).Nodup:=List.nodup_append.2 ⟨hvn,by simp,fun a ha b hb=>by rw[List.mem_singleton.1 hb];rintro rfl;exact hn ha⟩
 have h2:∀j ∈ vis ++ [i],j<h.length:=fun j hj=>by
  rcases List.mem_append.1 hj with hj|hj
  ·exact hvl j hj
  ·rw[List.mem_singleton.1 hj];exact hi
 refine⟨h1,h2,?_⟩
 have:=List.Nodup.length_le_of_subset h1 (l₂:=List.range h.length) (fun j hj=>List.mem_range.2 (h2 j hj))
 rw[List.length_range,List.length_append,List.length_singleton] at this
 rw[List.length_append,List.length_singleton]
 omega
theorem cfT_put_same (a:Atm) (m:Int):∀h,cfT a (putT a m h)=m
 | []=>by rw[putT];show (if a=a then m else 0)=m;rw[if_pos rfl]
 | x :: h=>by
  rw[putT]
  by_cases e:a=x.1
  ·rw[if_pos e,cfT,if_pos e]
  ·rw[if_neg e,cfT,if_neg e,cfT_put_same a m h]
set_option maxHeartbeats 4000000 in
theorem irr_plus (c d k:Int) (f g:Tms) (hc:NumB c) (hd:NumB d) (hk:NumB k) (hf:OkT f) (hg:OkT g) (hok:okA k c d f g=true) :
  MCalls Proofs.Tryz.prog 152 [.agg [ai c,.rm (keysT f) (valsT f)],.agg [ai d,.rm (keysT g) (valsT g)],ai k] [] fun r L=>L=[]∧∃h,r = .agg [ai (sumF k c d).1,.rm (keysT h) (valsT h)]∧EqT h (addT k f g):=by
 unfold okA at hok
 rw[Bool.and_eq_true] at hok
 obtain⟨ho1,ho2⟩:=hok
 have hs1:=sumF_ok ho1
 have hs2:=sumF_num k c d
 rw[hs1] at hs2 ⊢
 have hsum:∀i (hi:i<g.length),NumB (cfT g[i].1 f+k * g[i].2):=fun i hi=>by
  have h1:=List.all_eq_true.1 ho2 _ (List.getElem_mem hi)
  rw[← sumF_ok h1]
  exact sumF_num _ _ _
 have hfin:∀h,OkT h→(∀v,sT v h=sT v f+k * sT v g)→EqT h (addT k f g):=fun h h1 h2=>⟨h1,addT_ok k hf g,fun v=>by rw[h2,addT_s v g hg.nd ho2]⟩
 have hfits:=keysT_fits
 have hkf:=keysT_len f
 have hkg:=keysT_len g
 have hb : -9223372036854775808≤k * d∧k * d≤9223372036854775807:=by unfold NumB at *;omega
 unfold NumB at hc hd hk hs2
 have hmul:=mulW_eq (a:=k) (b:=d) (by unfold I64;omega)
 refine MCalls.enter' 60 [.cell 6 197] [3,4,7,8,10] Proofs.Tryz.func152 rfl rfl rfl rfl rfl (by simp) (AWp.of ?_);simp only[go_sem]
 intro b6
 refine W1 hmul ?_
 intro bm g1 b7 g2 g3
 have n1:¬b6=bm:=by omega
 have n2:¬bm=b6:=by omega
 refine Sd ?_
 refine W2 n1 n2 ?_
 refine AOp.rangeMap (ks:=keysT f) (vs:=valsT f) (kt:=268) (et:=3) rfl tinfo_iatoms (fun i hi=>by cases hi;decide) rfl ?_
 intro bi g4
 simp only[go_sem] at g4 ⊢
 have m1:¬bi=bm:=by omega
 have m2:¬bm=bi:=by omega
 have m3:¬bi=b6:=by omega
 have m4:¬b6=bi:=by omega
 refine W2 n1 n2 ?_
 refine AWp.block (AWp.loopN [] [2,4,6,7,23] (fun m vs L=>∃vis h,m=f.length - vis.length∧vis.Nodup∧(∀i ∈ vis,i<f.length)∧vs=[]∧L=[(bi,.iter (keysT f) (valsT f) vis),(bm,.amap (keysT h) (valsT h)),(b6,.row 197 2 [.agg [ai 0,.v (.map none)]] 1)]∧CopI f vis h) f.length ⟨[],[],rfl,.nil,by simp,rfl,rfl,ok_nil,fun _=>rfl,fun _ _ _=>rfl⟩ ?_)
 rintro m vs L - ⟨vis,h,rfl,hvn,hvl,rfl,rfl,hI⟩
 have hstep:=fun i (hi:i<f.length) (hn:i ∉ vis)=>vis_lt hvn hvl hi hn
 simp only[go_sem]
 refine Sd ?_
 refine AWp.of ?_;simp only[go_sem,m1,m2,m3,m4]
 refine AOp.nextMap (ks:=keysT f) (vs:=valsT f) (vis:=vis) (b:=bi) rfl ?_ rfl (if_pos rfl) (fun hall => ?_) ?_
 ·intro i hi;cases hi;decide
 ·rw[hkf] at hall
  have hI0:PluI k f g [] h:=⟨hI.1,fun v=>by rw[hI.2.1 v,visT_all hvn hvl hall];show _=_+k * 0;rw[Int.mul_zero,Int.add_zero],fun j hj _=>by
   have h1:=EqT.mk hI.1 hf (fun v=>by rw[hI.2.1 v,visT_all hvn hvl hall])
   exact h1.cf _⟩
  clear hI hstep
  simp only[go_sem]
  refine W6 m1 m2 m3 m4 n1 n2 ?_
  refine AOp.rangeMap (ks:=keysT g) (vs:=valsT g) (kt:=268) (et:=3) rfl tinfo_iatoms (fun i hi=>by cases hi;decide) rfl ?_
  intro bj g5
  simp only[go_sem] at g5 ⊢
  have p1:¬bj=bm:=by omega
  have p2:¬bm=bj:=by omega
  have p3:¬bj=b6:=by omega
  have p4:¬b6=bj:=by omega
  have p5:¬bj=bi:=by omega
  have p6:¬bi=bj:=by omega
  refine W6 m1 m2 m3 m4 n1 n2 ?_
  refine AWp.block (AWp.loopN [] [2,6,7,35] (fun m vs L=>∃ws h,m=g.length - ws.length∧ws.Nodup∧(∀i ∈ ws,i<g.length)∧vs=[]∧L=[(bj,.iter (keysT g) (valsT g) ws),(bi,.iter (keysT f) (valsT f) vis),(bm,.amap (keysT h) (valsT h)),(b6,.row 197 2 [.agg [ai 0,.v (.map none)]] 1)]∧PluI k f g ws h) g.length ⟨[],h,rfl,.nil,by simp,rfl,rfl,hI0⟩ ?_)
  clear hI0
  rintro m vs L - ⟨ws,h,rfl,hwn,hwl,rfl,rfl,hI⟩
  have hstep:=fun i (hi:i<g.length) (hn:i ∉ ws)=>vis_lt hwn hwl hi hn
  simp only[go_sem]
  refine Sd ?_
  refine AWp.of ?_;simp only[go_sem,p1,p2,p3,p4,p5,p6]
  refine AOp.nextMap (ks:=keysT g) (vs:=valsT g) (vis:=ws) (b:=bj) rfl ?_ rfl (if_pos rfl) (fun hall => ?_) ?_
  ·intro i hi;cases hi;decide
  ·rw[hkg] at hall
   have hres:=hfin h hI.1 fun v=>by rw[hI.2.1 v,visT_all hwn hwl hall]
   simp only[go_sem]
   repeat(first|((with_reducible refine AWp.ofC ?_ ?_);exact rfl;simp only[go_sem,m1,m2,m3,m4,n1,n2,p1,p2,p3,p4,p5,p6])|((with_reducible refine an ?_ ?_);exact Au))
   refine ret_viewK [false,false,true,false] (.agg [ai (c+k * d),.rm (keysT h) (valsT h)]) ⟨rfl,h,rfl,hres⟩ ?_
   simp only[go_sem,m1,m2,m3,m4,n1,n2,p1,p2,p3,p4,p5,p6]
   exact .mkAgg (Vws.cons (.refl _) (Vws.cons (.lm (if_pos rfl) rfl (Vws.refl _).2) .nil))
  ·intro i hi hn
   rw[hkg] at hi
   obtain⟨hwn',hwl',hwc⟩:=hstep i hi hn
   have hcf:=hI.2.2 i hi hn
   have hnb:=hsum i hi
   rw[← hcf] at hnb
   have hI':=pluI_step hg hI hi hn hnb
   have hcn:=cfT_num (a:=g[i].1) hI.1.co
   have hgn:=(hg.co _ (List.getElem_mem hi)).2
   unfold NumB at hnb hcn hgn
   have hmw:=mulW_eq (a:=k) (b:=g[i].2) (by unfold I64;omega)
   clear hstep hsum hfin hI hcf
   simp only[go_sem]
   repeat(first|((with_reducible refine AWp.ofC ?_ ?_);exact rfl;simp only[go_sem,m1,m2,m3,m4,n1,n2,p1,p2,p3,p4,p5,p6])|((with_reducible refine an ?_ ?_);exact Au))
   refine AOp.entryMap (ks:=keysT g) (vs:=valsT g) (vis:=ws) (i:=i) (b:=bj) rfl ?_ rfl (if_pos rfl) ?_
   ·intro i hi;cases hi;decide
   simp only[go_sem,keysT_getD hi,valsT_getD hi,zav_atmV]
   generalize hxe:g[i].1=x at *
   generalize g[i].2=n at *
   have hgt:=mget_T x h
   have hen:=fun st=>mentry_T x h st
   have hst:=fun m=>set_T x m h
   have hg2:=fun m=>mget_T x (putT x m h)
   have hcs:=fun m=>cfT_put_same x m h
   have hfh:=hfits h
   have hfp:=fun m=>hfits (putT x m h)
   intro b11
   intros
   have q1:¬bj=b11:=by omega
   have q2:¬b11=bj:=by omega
   have q3:¬bi=b11:=by omega
   have q4:¬b11=bi:=by omega
   have q5:¬bm=b11:=by omega
   have q6:¬b11=bm:=by omega
   have q7:¬b6=b11:=by omega
   have q8:¬b11=b6:=by omega
   refine Sd ?_
   repeat(first|((with_reducible refine AWp.ofC ?_ ?_);exact rfl;simp only[go_sem,atm_key,atmV_fits,m1,m2,m3,m4,n1,n2,p1,p2,p3,p4,p5,p6,q1,q2,q3,q4,q5,q6,q7,q8])|((with_reducible refine an ?_ ?_);exact Au))
   have hge:=mget_T x (entT x h)
   have hce:=cfT_ent x h
   have hfe:=hfits (entT x h)
   repeat(first|(with_reducible refine AWp.seq ?_)|(with_reducible refine AWp.block ?_))
   refine AWp.mix mixed [0,1,2,4,5,6] (.step 3 (.step 7 (.step 8 (.step 9 (.step 10 .done .done) .done) .done) (.step 8 (.step 7 (.step 9 (.step 10 .done .done) .done) (.step 9 (.step 7 (.step 10 .done .done) .done) .done)) .done)) (.step 8 (.step 3 (.step 7 (.step 9 (.step 10 .done .done) .done) (.step 9 (.step 7 (.step 10 .done .done) .done) .done)) (.step 9 (.step 3 (.step 7 (.step 10 .done .done) .done) .done) .done)) .done)) (by kernel_rfl) ?_;simp only[go_sem,atm_key,atmV_fits,hfh,hgt,hen,hge,hce,hfe,hmw,m1,m2,m3,m4,n1,n2,p1,p2,p3,p4,p5,p6,q1,q2,q3,q4,q5,q6,q7,q8]
   repeat' (first|(with_reducible refine And.intro ?_ ?_)|(with_reducible intro _))
   all_goals first|omega|skip
   all_goals
    rw[hst]
    generalize hM:cfT x h+k * n=M at *
    repeat(first|((with_reducible refine AWp.ofC ?_ ?_);exact rfl;simp only[go_sem,atm_key,atmV_fits,hg2,hcs,hfp,m1,m2,m3,m4,n1,n2,p1,p2,p3,p4,p5,p6,q1,q2,q3,q4,q5,q6,q7,q8])|((with_reducible refine an ?_ ?_);exact Au))
    refine⟨fun h0 => ?_,fun h0 => ?_⟩
    ·have hsT:stT x M h=delT x h:=by unfold stT;rw[if_pos h0]
     rw[hsT] at hI'
     repeat(first|((with_reducible refine AWp.ofC ?_ ?_);exact rfl;simp only[go_sem,atm_key,atmV_fits,hg2,hcs,hfp,m1,m2,m3,m4,n1,n2,p1,p2,p3,p4,p5,p6,q1,q2,q3,q4,q5,q6,q7,q8])|((with_reducible refine an ?_ ?_);exact Au))
     refine AOp.deleteMap (kt:=268) (et:=3) (κ:=KK.st [.int,.int,.int,.str]) (kv:=atmV x) (b:=bm) (ks:=keysT (putT x M h)) (vs:=valsT (putT x M h)) rfl rfl rfl rfl (fun i hi=>by cases hi) tinfo_iatoms (by simp only[go_sem]) rfl (by simp only[go_sem,atm_key,atmV_fits,hg2,hcs,hfp,m1,m2,m3,m4,n1,n2,p1,p2,p3,p4,p5,p6,q1,q2,q3,q4,q5,q6,q7,q8]) (by simp only[go_sem]) (by simp only[go_sem];rfl) (atmV_fits x) (hfits _) ?_
     rw[mdel_T,del_put]
     simp only[go_sem,atm_key,atmV_fits,hg2,hcs,hfp,m1,m2,m3,m4,n1,n2,p1,p2,p3,p4,p5,p6,q1,q2,q3,q4,q5,q6,q7,q8]
     repeat(first|((with_reducible refine AWp.ofC ?_ ?_);exact rfl;simp only[go_sem,atm_key,atmV_fits,hg2,hcs,hfp,m1,m2,m3,m4,n1,n2,p1,p2,p3,p4,p5,p6,q1,q2,q3,q4,q5,q6,q7,q8])|((with_reducible refine an ?_ ?_);exact Au))
     exact⟨_,List.Sublist.refl _,_,hwc,ws ++ [i],_,rfl,hwn',hwl',rfl,hI'⟩
    ·have hsT:stT x M h=putT x M h:=by unfold stT;rw[if_neg h0]
     rw[hsT] at hI'
     repeat(first|((with_reducible refine AWp.ofC ?_ ?_);exact rfl;simp only[go_sem,atm_key,atmV_fits,hg2,hcs,hfp,m1,m2,m3,m4,n1,n2,p1,p2,p3,p4,p5,p6,q1,q2,q3,q4,q5,q6,q7,q8])|((with_reducible refine an ?_ ?_);exact Au))
     exact⟨_,List.Sublist.refl _,_,hwc,ws ++ [i],_,rfl,hwn',hwl',rfl,hI'⟩
 ·intro i hi hn
  rw[hkf] at hi
  obtain⟨hvn',hvl',hvc⟩:=hstep i hi hn
  have hI':=copI_step hf hI hi hn
  clear hstep hsum hfin hI
  simp only[go_sem]
  refine W6 m1 m2 m3 m4 n1 n2 ?_
  refine AOp.entryMap (ks:=keysT f) (vs:=valsT f) (vis:=vis) (i:=i) (b:=bi) rfl ?_ rfl (if_pos rfl) ?_
  ·intro i hi;cases hi;decide
  simp only[go_sem,keysT_getD hi,valsT_getD hi,zav_atmV]
  generalize hxe:f[i].1=x at *
  generalize f[i].2=n at *
  have hpt:=mput_T x n h
  have hfh:=hfits h
  intro b11
  intros
  have q1:¬bi=b11:=by omega
  have q2:¬b11=bi:=by omega
  have q3:¬bm=b11:=by omega
  have q4:¬b11=bm:=by omega
  have q5:¬b6=b11:=by omega
  have q6:¬b11=b6:=by omega
  refine Sd ?_
  repeat(first|((with_reducible refine AWp.ofC ?_ ?_);exact rfl;simp only[go_sem,atm_key,atmV_fits,hfh,hpt,m1,m2,m3,m4,n1,n2,q1,q2,q3,q4,q5,q6])|((with_reducible refine an ?_ ?_);exact Au))
  exact⟨_,List.Sublist.refl _,_,hvc,vis ++ [i],_,rfl,hvn',hvl',rfl,hI'⟩
theorem seenL_snoc {h:Tms} {i:Nat} (hi:i<h.length) (vis:List Nat):seenL h (vis ++ [i])=seenL h vis ++ [h[i]]:=by
 unfold seenL
 rw[List.map_append,List.map_cons,List.map_nil,getD_a0 hi]
theorem mvI_snoc {h:Tms} {i:Nat} (hi:i<h.length) (vis:List Nat):mvI (seenL h (vis ++ [i]))=mvIs (mvI (seenL h vis)) h[i]:=by
 unfold mvI
 rw[seenL_snoc hi,List.foldl_append];rfl
set_option maxHeartbeats 2000000 in
theorem irr_movers (c:Int) (h:Tms):MCalls Proofs.Tryz.prog 150 [.agg [ai c,.rm (keysT h) (valsT h)]] [] fun r L=>L=[]∧∃h',h'.Perm h∧r = .tup [ai (mvI h').1,ai (mvI h').2]:=by
 have hkl:=keysT_len h
 refine MCalls.enter' 43 [.tmp 2,.tmp 3] [1,4] Proofs.Tryz.func150 rfl rfl rfl rfl rfl (by simp) (AWp.of ?_);simp only[go_sem]
 refine Wk ?_
 refine AOp.rangeMap (ks:=keysT h) (vs:=valsT h) (kt:=268) (et:=3) rfl tinfo_iatoms (fun i hi=>by cases hi;decide) rfl ?_
 intro bi g3
 simp only[go_sem] at g3 ⊢
 refine Wk ?_
 refine AWp.block (AWp.loopN [2,3] [8] (fun m vs L=>∃vis,m=h.length - vis.length∧vis.Nodup∧(∀i ∈ vis,i<h.length)∧vs=[ai (mvI (seenL h vis)).1,ai (mvI (seenL h vis)).2]∧L=[(bi,.iter (keysT h) (valsT h) vis)]) h.length ⟨[],rfl,.nil,by simp,rfl,rfl⟩ ?_)
 rintro m vs L - ⟨vis,rfl,hvn,hvl,rfl,rfl⟩
 have hstep:=fun i (hi:i<h.length) (hn:i ∉ vis)=>vis_lt hvn hvl hi hn
 have hsn:=fun i (hi:i<h.length)=>mvI_snoc hi vis
 simp only[go_sem]
 refine Sd ?_
 refine AWp.of ?_;simp only[go_sem]
 refine AOp.nextMap (ks:=keysT h) (vs:=valsT h) (vis:=vis) (b:=bi) rfl ?_ rfl (if_pos rfl) (fun hall => ?_) ?_
 ·intro i hi;cases hi;decide
 ·rw[hkl] at hall
  have hp:=seenL_all hvn hvl hall
  simp only[go_sem]
  refine Wk ?_
  refine ret_viewK [] _ ⟨rfl,seenL h vis,hp,rfl⟩ ?_
  simp only[go_sem]
  exact .refl _
 ·intro i hi hn
  rw[hkl] at hi
  obtain⟨hvn',hvl',hvc⟩:=hstep i hi hn
  have hsn:=hsn i hi
  generalize mvI (seenL h vis)=st at *
  obtain⟨up,dn⟩:=st
  unfold mvIs at hsn
  simp only[go_sem]
  refine Wk ?_
  refine AOp.entryMap (ks:=keysT h) (vs:=valsT h) (vis:=vis) (i:=i) (b:=bi) rfl ?_ rfl (if_pos rfl) ?_
  ·intro i hi;cases hi;decide
  simp only[go_sem,keysT_getD hi,valsT_getD hi,zav_atmV]
  intro b4 g4
  have n1:¬bi=b4:=by omega
  have n2:¬b4=bi:=by omega
  refine Sd ?_
  by_cases h4:h[i].1.1=4
  ·by_cases h5:0<h[i].2
   ·rw[if_pos ⟨h4,h5⟩] at hsn
    refine W4 h4 h5 n1 n2 ?_
    repeat(first|(with_reducible refine AWp.seq ?_)|(with_reducible refine AWp.block ?_))
    refine AWp.mix mixed [0,1,2,3,4,5] .done (by kernel_rfl) ?_;simp only[go_sem,n1,n2]
    refine W2 n1 n2 ?_
    exact⟨_,List.Sublist.refl _,_,hvc,vis ++ [i],rfl,hvn',hvl',by rw[hsn],rfl⟩
   ·rw[if_neg (fun e=>h5 e.2),if_pos h4] at hsn
    refine W4 h4 h5 n1 n2 ?_
    repeat(first|(with_reducible refine AWp.seq ?_)|(with_reducible refine AWp.block ?_))
    refine AWp.mix mixed [0,1,2,3,4,5] .done (by kernel_rfl) ?_;simp only[go_sem,n1,n2]
    refine W2 n1 n2 ?_
    exact⟨_,List.Sublist.refl _,_,hvc,vis ++ [i],rfl,hvn',hvl',by rw[hsn],rfl⟩
  ·rw[if_neg (fun e=>h4 e.1),if_neg h4] at hsn
   by_cases h5:0<h[i].2
   ·rw[if_pos h5] at hsn
    refine W4 h4 h5 n1 n2 ?_
    exact⟨_,List.Sublist.refl _,_,hvc,vis ++ [i],rfl,hvn',hvl',by rw[hsn],rfl⟩
   ·rw[if_neg h5] at hsn
    refine W4 h4 h5 n1 n2 ?_
    exact⟨_,List.Sublist.refl _,_,hvc,vis ++ [i],rfl,hvn',hvl',by rw[hsn],rfl⟩
theorem ownL_hit:∀(l:List Pd) (i:Nat) (hi:i<l.length),(∀j (h:j<l.length),j<i→¬0≤ownF l[j])→0≤ownF l[i]→ownL l=ownF l[i]
 | x :: l,0,_,_,h=>by
  have h:0≤ownF x:=h
  rw[ownL,if_pos h];rfl
 | x :: l,i+1,hi,h0,h=>by
  have hx:¬0≤ownF x:=h0 0 (by simp) (by omega)
  rw[ownL,if_neg hx]
  exact ownL_hit l i (Nat.lt_of_succ_lt_succ hi) (fun j hj hji=>h0 (j+1) (Nat.succ_lt_succ hj) (by omega)) h
theorem ownL_none:∀(l:List Pd),(∀j (h:j<l.length),¬0≤ownF l[j])→ownL l = -1
 | [],_=>by rw[ownL]
 | x :: l,h=>by
  have hx:¬0≤ownF x:=h 0 (by simp)
  rw[ownL,if_neg hx]
  exact ownL_none l fun j hj=>h (j+1) (Nat.succ_lt_succ hj)
theorem irr_owner (t:Pd):szF t≤1000000→PC Proofs.Tryz.prog 149 [aPd t] (ai (ownF t)):=by
 induction t using Pd.ind with
 | _ k n p q s l ih =>
 intro hz
 have hsz:szF (.mk k n p q s l)=szL l+1:=by rw[szF]
 have hll:=szL_len l
 have hch:∀i (hi:i<l.length),PC Proofs.Tryz.prog 149 [aPd l[i]] (ai (ownF l[i])):=fun i hi=>by
  have hm:=List.getElem_mem hi
  have:=szL_mem hm
  exact ih _ hm (by omega)
 clear ih
 have hof:=ownF_mk k n p q s l
 rw[hof,aPd_mk]
 by_cases hk:k=2∨k=3
 ·rw[if_pos hk]
  rcases hk with rfl|rfl
  all_goals
   refine PC.enter 29 [.tmp 2] [1,4] Proofs.Tryz.func149 rfl rfl rfl rfl rfl (by simp) (AWp.of ?_);simp only[go_sem]
   repeat(first|((with_reducible refine AWp.ofC ?_ ?_);exact rfl;simp only[go_sem,Int.reduceEq])|((with_reducible refine an ?_ ?_);exact Au))
   refine ret_eq ?_;simp only[go_sem]
 ·rw[if_neg hk]
  have k2:¬k=2:=fun e=>hk (.inl e)
  have k3:¬k=3:=fun e=>hk (.inr e)
  have hhit:=ownL_hit l
  have hnone:=ownL_none l
  clear hof
  generalize ownL l=R at *
  refine PC.enter 29 [.tmp 2] [1,4] Proofs.Tryz.func149 rfl rfl rfl rfl rfl (by simp) (AWp.of ?_);simp only[go_sem]
  refine W2 k2 k3 ?_
  refine AWp.range' l.length [] [17,18] (fun i vs L=>vs=[]∧L=[]∧∀j (h:j<l.length),j<i→¬0≤ownF l[j]) (by omega) rfl rfl rfl ⟨rfl,rfl,fun j _ h=>by omega⟩ ?_ ?_
  ·rintro i vs L hil - ⟨rfl,rfl,hI⟩
   have hgi:=getD_map (f:=aPd) hil
   have hci:=hch i hil
   have hhit:=hhit i hil hI
   have hI':¬0≤ownF l[i]→∀j (h:j<l.length),j<i+1→¬0≤ownF l[j]:=fun h j hj hji=>by
    by_cases e:j=i
    ·subst e;exact h
    ·exact hI j hj (by omega)
   obtain⟨k2,o2,p2,q2,s2,X2,hX⟩:=aPd_shape l[i]
   rw[hX] at hgi hci
   generalize ownF l[i]=o at *
   simp only[go_sem]
   refine W1 hgi ?_
   intro b4
   refine Sd ?_
   refine Wk ?_
   refine Sd ?_
   refine(hci).val.use ?_;simp only[go_sem]
   refine Wk ?_
   refine⟨fun h => ?_,fun h => ?_⟩
   ·refine Wk ?_
    refine ret_eq ?_;simp only[go_sem]
    rw[hhit h]
   ·refine Wk ?_
    exact⟨_,List.Sublist.refl _,rfl,hI' (by omega)⟩
  ·rintro vs L - ⟨rfl,rfl,hI⟩
   have hR:=hnone fun j hj=>hI j hj hj
   simp only[go_sem]
   refine Wk ?_
   refine ret_eq ?_;simp only[go_sem]
   rw[hR]
theorem irr_const (c:Int) (h:Tms):PC Proofs.Tryz.prog 226 [.agg [ai c,.rm (keysT h) (valsT h)]] (ab (decide (((keysT h).length:Int)=0))):=by
 refine PC.enter 7 [.tmp 2] [1] Proofs.Tryz.func226 rfl rfl rfl rfl rfl (by simp) (AWp.of ?_);simp only[go_sem]
 refine Wk ?_
 refine ret_eq ?_;simp only[go_sem]
theorem addT_eq {k c d:Int} {f g f' g':Tms} (hf:EqT f f') (hg:EqT g g') (hok:okA k c d f g=true):EqT (addT k f g) (addT k f' g'):=by
 have hok':=hok
 rw[okA_eq hf hg] at hok'
 unfold okA at hok hok'
 rw[Bool.and_eq_true] at hok hok'
 exact⟨addT_ok k hf.l g,addT_ok k hf.r g',fun v=>by rw[addT_s v g hg.l.nd hok.2,addT_s v g' hg.r.nd hok'.2,hf.eq,hg.eq]⟩
theorem irr_plusA {k c d:Int} {f g:Tms} {r:Int × Tms} (hr:adE k c d f g=some r) {f' g':Tms} (hf:EqT f' f) (hg:EqT g' g) (hc:NumB c) (hd:NumB d) (hk:NumB k) :
  MCalls Proofs.Tryz.prog 152 [.agg [ai c,.rm (keysT f') (valsT f')],.agg [ai d,.rm (keysT g') (valsT g')],ai k] [] fun r' L=>L=[]∧∃h,r' = .agg [ai r.1,.rm (keysT h) (valsT h)]∧EqT h r.2:=by
 obtain⟨hok,rfl⟩:=adE_some hr
 have hok':=hok
 rw[← okA_eq hf hg] at hok'
 refine(irr_plus c d k f' g' hc hd hk hf.l hg.l hok').mono ?_
 rintro r L ⟨rfl,h,rfl,hq⟩
 exact⟨rfl,h,rfl,hq.trans (addT_eq hf hg hok')⟩
set_option maxHeartbeats 4000000 in
theorem irr_linear (t:Pd):szF t≤1000000→IntOk t→∀g,linE t=some g→MCalls Proofs.Tryz.prog 151 [aPd t] [] fun r L=>L=[]∧∃h,r = .agg [ai g.1,.rm (keysT h) (valsT h)]∧EqT h g.2:=by
 induction t using Pd.ind with
 | _ k n p q s l ih =>
 intro hz hio g hE
 have hsz:szF (.mk k n p q s l)=szL l+1:=by rw[szF]
 have hch:∀x ∈ l,∀g,linE x=some g→MCalls Proofs.Tryz.prog 151 [aPd x] [] fun r L=>L=[]∧∃h,r = .agg [ai g.1,.rm (keysT h) (valsT h)]∧EqT h g.2:=fun x hx=>by
  have:=szL_mem hx
  exact ih x hx (by omega) ((int_parts hio).1 x hx)
 clear ih
 obtain⟨hsub,hc⟩:=int_parts hio
 rcases hc with ⟨hk,rfl⟩|⟨rfl,x,rfl⟩|⟨hk,x,y,rfl⟩
 ·have hL:=linE_lin _ hio g hE
  by_cases h1:k=1
  ·subst h1
   rw[linE_mk,linL_nil] at hE
   have h:(if (1:Int)=1 then some (n,[]) else _)=some g:=hE
   rw[if_pos rfl] at h
   cases h
   clear hL hE hch hsub hio
   simp only[aPd_mk,List.map_nil]
   refine MCalls.enter' 89 [.cell 2 197] [1,3,4,5] Proofs.Tryz.func151 rfl rfl rfl rfl rfl (by simp) (AWp.of ?_);simp only[go_sem]
   intro b2
   refine Wk ?_
   intro bm g1 b3 g2 g3
   have n1:¬b2=bm:=by omega
   have n2:¬bm=b2:=by omega
   refine Sd ?_
   repeat(first|((with_reducible refine AWp.ofC ?_ ?_);exact rfl;simp only[go_sem,n1,n2,Int.reduceEq])|((with_reducible refine an ?_ ?_);exact Au))
   intro bp g4 g5
   have n3:¬b2=bp:=by omega
   have n4:¬bp=b2:=by omega
   have n5:¬bm=bp:=by omega
   have n6:¬bp=bm:=by omega
   simp only[go_sem,n1,n2,n3,n4,n5,n6]
   refine Sd ?_
   refine W6 n1 n2 n3 n4 n5 n6 ?_
   refine ret_viewK [true,false,false] (.agg [ai n,.rm [] []]) ⟨rfl,[],rfl,.refl ok_nil⟩ ?_
   simp only[go_sem,n1,n2,n3,n4,n5,n6]
   exact .mkAgg (Vws.cons (.refl _) (Vws.cons (.lm (if_pos rfl) rfl (Vws.refl _).2) .nil))
  ·have hk3:k=2∨k=3∨k=4:=by omega
   have hok:OkT [((k,p,q,s),1)]:=(lin_leaf hk3 n p q s).ok
   rw[linE_mk,linL_nil] at hE
   have h:(if k=1 then some (n,[]) else if k=2∨k=3∨k=4 then some (0,[((k,p,q,s),1)]) else _)=some g:=hE
   rw[if_neg h1,if_pos hk3] at h
   cases h
   have hkey:Value.agg #[.int .i64 k,.int .i64 p,.int .i64 q,.string s]=atmV (k,p,q,s):=rfl
   have hfit:=atmV_fits (k,p,q,s)
   have hres:∃h,AV.agg [ai 0,.rm [atmV (k,p,q,s)] [ai 1]] = .agg [ai 0,.rm (keysT h) (valsT h)]∧EqT h [((k,p,q,s),1)]:=⟨_,rfl,.refl hok⟩
   clear hL hE hch hsub hio hk hz hsz
   generalize atmV (k,p,q,s)=kv at *
   simp only[aPd_mk,List.map_nil]
   rcases hk3 with rfl|rfl|rfl
   all_goals
    refine MCalls.enter' 89 [.cell 2 197] [1,3,4,5] Proofs.Tryz.func151 rfl rfl rfl rfl rfl (by simp) (AWp.of ?_);simp only[go_sem]
    intro b2
    refine Wk ?_
    intro bm g1 b3 g2 g3
    have n1:¬b2=bm:=by omega
    have n2:¬bm=b2:=by omega
    refine Sd ?_
    repeat(first|((with_reducible refine AWp.ofC ?_ ?_);exact rfl;simp only[go_sem,n1,n2,hkey,mput_nil,Int.reduceEq])|((with_reducible refine an ?_ ?_);exact Au))
    intro bp g4 g5
    have n3:¬b2=bp:=by omega
    have n4:¬bp=b2:=by omega
    have n5:¬bm=bp:=by omega
    have n6:¬bp=bm:=by omega
    simp only[go_sem,n1,n2,n3,n4,n5,n6]
    refine Sd ?_
    refine W6 n1 n2 n3 n4 n5 n6 ?_
    refine ret_viewK [true,false,false] (.agg [ai 0,.rm [kv] [ai 1]]) ⟨rfl,hres⟩ ?_
    simp only[go_sem,n1,n2,n3,n4,n5,n6]
    exact .mkAgg (Vws.cons (.refl _) (Vws.cons (.lm (if_pos rfl) rfl (Vws.refl _).2) .nil))
 ·obtain⟨a,ha,h'⟩:=linE_inv1 (by decide) (by decide) hE
  have hcx:=hch x (by simp) a ha
  have hLx:=linE_lin x (hsub x (by simp)) a ha
  have hpl:=fun h (hq:EqT h a.2)=>irr_plusA (f':=[]) (g':=h) h' (.refl ok_nil) hq (by unfold NumB;decide) hLx.num (by unfold NumB;decide)
  clear hch hsub hio hE h'
  obtain⟨k1,o1,p1,q1,s1,X1,hX⟩:=aPd_shape x
  simp only[aPd_mk,List.map_cons,List.map_nil,hX] at hcx ⊢
  refine MCalls.enter' 89 [.cell 2 197] [1,3,4,5] Proofs.Tryz.func151 rfl rfl rfl rfl rfl (by simp) (AWp.of ?_);simp only[go_sem]
  intro b2
  refine Wk ?_
  intro bm g1 b3 g2 g3
  have n1:¬b2=bm:=by omega
  have n2:¬bm=b2:=by omega
  refine Sd ?_
  refine AWp.viewP (Lf:=[(bm,.amap [] [])]) (Lk:=[(b2,.row 197 2 [.agg [.v (.int .i64 0),.v (.map none)]] 1)]) (L':=[(b2,.row 197 2 [.agg [.v (.int .i64 0),.v (.map none)]] 1)]) (List.Perm.refl _) (LVw.refl _) [(3,.rp 2 [.agg [ai 0,.rm [] []]] 0 0)] (fun z hz => ?_) ?_
  ·obtain rfl:=List.mem_singleton.1 hz
   show Vw _ (.rp 2 [.agg [.v (.int .i64 0),.lm bm]] 0 0) (.rp 2 [.agg [ai 0,.rm [] []]] 0 0)
   have hv:Vw [(bm,.amap [] [])] (.lm bm) (.rm [] []):=.lm (if_pos rfl) rfl (Vws.refl _).2
   exact .rp rfl (Vws.cons (.mkAgg (Vws.cons (.refl _) (Vws.cons hv .nil))) .nil).2
  simp only[go_sem]
  repeat(first|((with_reducible refine AWp.ofC ?_ ?_);exact rfl;simp only[go_sem,n1,n2,Int.reduceEq])|((with_reducible refine an ?_ ?_);exact Au))
  repeat(first|(with_reducible refine AWp.seq ?_)|(with_reducible refine AWp.block ?_))
  refine AWp.mix mixed [0,1,2,3,4] (.step 5 (.step 6 (.step 7 .done .done) .done) .done) (by kernel_rfl) ?_;simp only[go_sem,n1,n2]
  refine Sd ?_
  refine(MVal.frame (Lm:=[]) (Lr:=_) hcx.val).mono ?_
  rintro r L ⟨L1,rfl,rfl,h,rfl,hq⟩
  simp only[go_sem]
  refine(MVal.frame (Lm:=[]) (Lr:=_) (hpl h hq).val).mono ?_
  rintro r L ⟨L1,rfl,rfl,h2,rfl,hq2⟩
  simp only[go_sem,n1,n2]
  refine Sd ?_
  refine W2 n1 n2 ?_
  refine ret_viewK [] (.agg [ai g.1,.rm (keysT h2) (valsT h2)]) ⟨rfl,h2,rfl,hq2⟩ ?_
  simp only[go_sem,n1,n2]
  exact .refl _
 ·obtain⟨a,b,ha,hb,h'⟩:=linE_inv2 (by omega) (by omega) hE
  have hcx:=hch x (by simp) a ha
  have hcy:=hch y (by simp) b hb
  have hLx:=linE_lin x (hsub x (by simp)) a ha
  have hLy:=linE_lin y (hsub y (by simp)) b hb
  have nx:=hLx.num
  have ny:=hLy.num
  have n0:NumB 0:=by unfold NumB;decide
  have np:NumB 1:=by unfold NumB;decide
  have nm:NumB (-1):=by unfold NumB;decide
  clear hch hsub hio hE hLx hLy ha hb
  obtain⟨k1,o1,p1,q1,s1,X1,hX⟩:=aPd_shape x
  obtain⟨k2,o2,p2,q2,s2,X2,hY⟩:=aPd_shape y
  simp only[aPd_mk,List.map_cons,List.map_nil,hX,hY] at hcx hcy ⊢
  by_cases h6:k=6
  ·subst h6
   rw[if_pos rfl] at h'
   refine MCalls.enter' 89 [.cell 2 197] [1,3,4,5] Proofs.Tryz.func151 rfl rfl rfl rfl rfl (by simp) (AWp.of ?_);simp only[go_sem]
   intro b2
   refine Wk ?_
   intro bm g1 b3 g2 g3
   have n1:¬b2=bm:=by omega
   have n2:¬bm=b2:=by omega
   refine Sd ?_
   refine AWp.viewP (Lf:=[(bm,.amap [] [])]) (Lk:=[(b2,.row 197 2 [.agg [.v (.int .i64 0),.v (.map none)]] 1)]) (L':=[(b2,.row 197 2 [.agg [.v (.int .i64 0),.v (.map none)]] 1)]) (List.Perm.refl _) (LVw.refl _) [(3,.rp 2 [.agg [ai 0,.rm [] []]] 0 0)] (fun z hz => ?_) ?_
   ·obtain rfl:=List.mem_singleton.1 hz
    show Vw _ (.rp 2 [.agg [.v (.int .i64 0),.lm bm]] 0 0) (.rp 2 [.agg [ai 0,.rm [] []]] 0 0)
    have hv:Vw [(bm,.amap [] [])] (.lm bm) (.rm [] []):=.lm (if_pos rfl) rfl (Vws.refl _).2
    exact .rp rfl (Vws.cons (.mkAgg (Vws.cons (.refl _) (Vws.cons hv .nil))) .nil).2
   simp only[go_sem]
   repeat(first|((with_reducible refine AWp.ofC ?_ ?_);exact rfl;simp only[go_sem,n1,n2,Int.reduceEq])|((with_reducible refine an ?_ ?_);exact Au))
   repeat(first|(with_reducible refine AWp.seq ?_)|(with_reducible refine AWp.block ?_))
   refine AWp.mix mixed [0,1,2,3,5,6,7,8] (.step 4 (.step 9 (.step 10 (.step 11 .done .done) .done) .done) .done) (by kernel_rfl) ?_;simp only[go_sem,n1,n2]
   refine Sd ?_
   refine(MVal.frame (Lm:=[]) (Lr:=_) hcx.val).mono ?_
   rintro r L ⟨L1,rfl,rfl,h,rfl,hq⟩
   simp only[go_sem]
   refine Sd ?_
   refine(MVal.frame (Lm:=[]) (Lr:=_) hcy.val).mono ?_
   rintro r L ⟨L1,rfl,rfl,h2,rfl,hq2⟩
   simp only[go_sem]
   refine(MVal.frame (Lm:=[]) (Lr:=_) (irr_plusA h' hq hq2 nx ny np).val).mono ?_
   rintro r L ⟨L1,rfl,rfl,h3,rfl,hq3⟩
   simp only[go_sem,n1,n2]
   refine Sd ?_
   refine W2 n1 n2 ?_
   refine ret_viewK [] (.agg [ai g.1,.rm (keysT h3) (valsT h3)]) ⟨rfl,h3,rfl,hq3⟩ ?_
   simp only[go_sem,n1,n2]
   exact .refl _
  by_cases h7:k=7
  ·subst h7
   rw[if_neg (by decide),if_pos rfl] at h'
   refine MCalls.enter' 89 [.cell 2 197] [1,3,4,5] Proofs.Tryz.func151 rfl rfl rfl rfl rfl (by simp) (AWp.of ?_);simp only[go_sem]
   intro b2
   refine Wk ?_
   intro bm g1 b3 g2 g3
   have n1:¬b2=bm:=by omega
   have n2:¬bm=b2:=by omega
   refine Sd ?_
   refine AWp.viewP (Lf:=[(bm,.amap [] [])]) (Lk:=[(b2,.row 197 2 [.agg [.v (.int .i64 0),.v (.map none)]] 1)]) (L':=[(b2,.row 197 2 [.agg [.v (.int .i64 0),.v (.map none)]] 1)]) (List.Perm.refl _) (LVw.refl _) [(3,.rp 2 [.agg [ai 0,.rm [] []]] 0 0)] (fun z hz => ?_) ?_
   ·obtain rfl:=List.mem_singleton.1 hz
    show Vw _ (.rp 2 [.agg [.v (.int .i64 0),.lm bm]] 0 0) (.rp 2 [.agg [ai 0,.rm [] []]] 0 0)
    have hv:Vw [(bm,.amap [] [])] (.lm bm) (.rm [] []):=.lm (if_pos rfl) rfl (Vws.refl _).2
    exact .rp rfl (Vws.cons (.mkAgg (Vws.cons (.refl _) (Vws.cons hv .nil))) .nil).2
   simp only[go_sem]
   repeat(first|((with_reducible refine AWp.ofC ?_ ?_);exact rfl;simp only[go_sem,n1,n2,Int.reduceEq])|((with_reducible refine an ?_ ?_);exact Au))
   repeat(first|(with_reducible refine AWp.seq ?_)|(with_reducible refine AWp.block ?_))
   refine AWp.mix mixed [0,1,2,3,5,6,7,8] (.step 4 (.step 9 (.step 10 (.step 11 .done .done) .done) .done) .done) (by kernel_rfl) ?_;simp only[go_sem,n1,n2]
   refine Sd ?_
   refine(MVal.frame (Lm:=[]) (Lr:=_) hcx.val).mono ?_
   rintro r L ⟨L1,rfl,rfl,h,rfl,hq⟩
   simp only[go_sem]
   refine Sd ?_
   refine(MVal.frame (Lm:=[]) (Lr:=_) hcy.val).mono ?_
   rintro r L ⟨L1,rfl,rfl,h2,rfl,hq2⟩
   simp only[go_sem]
   refine(MVal.frame (Lm:=[]) (Lr:=_) (irr_plusA h' hq hq2 nx ny nm).val).mono ?_
   rintro r L ⟨L1,rfl,rfl,h3,rfl,hq3⟩
   simp only[go_sem,n1,n2]
   refine Sd ?_
   refine W2 n1 n2 ?_
   refine ret_viewK [] (.agg [ai g.1,.rm (keysT h3) (valsT h3)]) ⟨rfl,h3,rfl,hq3⟩ ?_
   simp only[go_sem,n1,n2]
   exact .refl _
  obtain rfl:k=8:=by omega
  rw[if_neg (by decide),if_neg (by decide)] at h'
  refine MCalls.enter' 89 [.cell 2 197] [1,3,4,5] Proofs.Tryz.func151 rfl rfl rfl rfl rfl (by simp) (AWp.of ?_);simp only[go_sem]
  intro b2
  refine Wk ?_
  intro bm g1 b3 g2 g3
  have n1:¬b2=bm:=by omega
  have n2:¬bm=b2:=by omega
  refine Sd ?_
  refine AWp.viewP (Lf:=[(bm,.amap [] [])]) (Lk:=[(b2,.row 197 2 [.agg [.v (.int .i64 0),.v (.map none)]] 1)]) (L':=[(b2,.row 197 2 [.agg [.v (.int .i64 0),.v (.map none)]] 1)]) (List.Perm.refl _) (LVw.refl _) [(3,.rp 2 [.agg [ai 0,.rm [] []]] 0 0)] (fun z hz => ?_) ?_
  ·obtain rfl:=List.mem_singleton.1 hz
   show Vw _ (.rp 2 [.agg [.v (.int .i64 0),.lm bm]] 0 0) (.rp 2 [.agg [ai 0,.rm [] []]] 0 0)
   have hv:Vw [(bm,.amap [] [])] (.lm bm) (.rm [] []):=.lm (if_pos rfl) rfl (Vws.refl _).2
   exact .rp rfl (Vws.cons (.mkAgg (Vws.cons (.refl _) (Vws.cons hv .nil))) .nil).2
  simp only[go_sem]
  repeat(first|((with_reducible refine AWp.ofC ?_ ?_);exact rfl;simp only[go_sem,n1,n2,Int.reduceEq])|((with_reducible refine an ?_ ?_);exact Au))
  refine AWp.cut [2,3,4,5] (fun vs L=>∃h h2,EqT h a.2∧EqT h2 b.2∧L=[(b2,.row 197 2 [.agg [.v (.int .i64 0),.v (.map none)]] 1)]∧vs=[.lp b2 2 0 0,.rp 2 [.agg [ai 0,.rm [] []]] 0 0,.rp 2 [.agg [ai a.1,.rm (keysT h) (valsT h)]] 0 0,.rp 2 [.agg [ai b.1,.rm (keysT h2) (valsT h2)]] 0 0]) ?_ ?_
  ·repeat(first|(with_reducible refine AWp.seq ?_)|(with_reducible refine AWp.block ?_))
   refine AWp.mix mixed [0,1,2,3,5,6,7,8] (.step 4 (.step 9 (.step 10 (.step 11 (.step 12 (.step 13 .done .done) .done) .done) (.step 11 (.step 10 (.step 12 (.step 13 .done .done) .done) .done) .done)) (.step 10 (.step 9 (.step 11 (.step 12 (.step 13 .done .done) .done) .done) (.step 11 (.step 9 (.step 12 (.step 13 .done .done) .done) .done) .done)) (.step 11 (.step 9 (.step 10 (.step 12 (.step 13 .done .done) .done) .done) (.step 10 (.step 9 (.step 12 (.step 13 .done .done) .done) .done) .done)) .done))) (.step 10 (.step 4 (.step 9 (.step 11 (.step 12 (.step 13 .done .done) .done) .done) (.step 11 (.step 9 (.step 12 (.step 13 .done .done) .done) .done) .done)) (.step 11 (.step 4 (.step 9 (.step 12 (.step 13 .done .done) .done) .done) .done) .done)) (.step 11 (.step 4 (.step 9 (.step 10 (.step 12 (.step 13 .done .done) .done) .done) (.step 10 (.step 9 (.step 12 (.step 13 .done .done) .done) .done) .done)) (.step 10 (.step 4 (.step 9 (.step 12 (.step 13 .done .done) .done) .done) .done) .done)) .done))) (by kernel_rfl) ?_;simp only[go_sem,n1,n2]
   clear h' h6 h7 hk hsz nx ny n0 np nm n1 n2 g1 g2 g3 hz hX hY
   repeat' (first|(with_reducible refine And.intro ?_ ?_)|(with_reducible intro _)|(refine(MVal.frame (Lm:=[]) (Lr:=_) hcx.val).mono ?_;rintro r L ⟨L1,rfl,rfl,h,rfl,hq⟩;simp only[go_sem])|(refine(MVal.frame (Lm:=[]) (Lr:=_) hcy.val).mono ?_;rintro r L ⟨L1,rfl,rfl,h2,rfl,hq2⟩;simp only[go_sem]))
   all_goals first|omega|skip
   all_goals try simp only[go_sem,Nat.ne_of_lt,Nat.ne_of_gt, *]
   all_goals exact⟨_,List.Sublist.refl _,h,h2,hq,hq2,rfl,rfl⟩
  ·rintro vs L - ⟨h,h2,hq,hq2,rfl,rfl⟩
   have hc:=irr_const a.1 h
   have hkl:=keysT_len h
   have hpl:=hq.perm.length_eq
   simp only[go_sem]
   refine Wk ?_
   refine Sd ?_
   refine(hc).val.use ?_;simp only[go_sem]
   refine Wk ?_
   refine⟨fun e => ?_,fun e => ?_⟩
   ·rw[if_pos (by omega)] at h'
    refine Wk ?_
    refine(MVal.frame (Lm:=[]) (Lr:=_) (irr_plusA (f':=[]) h' (.refl ok_nil) hq2 n0 ny nx).val).mono ?_
    rintro r L ⟨L1,rfl,rfl,h3,rfl,hq3⟩
    simp only[go_sem]
    refine Sd ?_
    refine Wk ?_
    refine ret_viewK [] (.agg [ai g.1,.rm (keysT h3) (valsT h3)]) ⟨rfl,h3,rfl,hq3⟩ ?_
    simp only[go_sem]
    exact .refl _
   ·rw[if_neg (by omega)] at h'
    split at h'
    ·refine Wk ?_
     refine(MVal.frame (Lm:=[]) (Lr:=_) (irr_plusA (f':=[]) h' (.refl ok_nil) hq n0 nx ny).val).mono ?_
     rintro r L ⟨L1,rfl,rfl,h3,rfl,hq3⟩
     simp only[go_sem]
     refine Sd ?_
     refine Wk ?_
     refine ret_viewK [] (.agg [ai g.1,.rm (keysT h3) (valsT h3)]) ⟨rfl,h3,rfl,hq3⟩ ?_
     simp only[go_sem]
     exact .refl _
    ·cases h'
end Go.AL
end
