/- Texts of this claim's proof: WI25, WI26, WI27, WI29, WI28, WRt, WRt2. No condition. -/
import Derived.Test.YteiafajligfbnaaGreatDoorM20
import Derived.Test.YteiafajligfbnaaGreatDoorM10
import Derived.Test.YteiafajligfbnaaGreatDoorM4
import Derived.Test.YteiafajligfbnaaGreatDoorM5
section
namespace Go.AL
open Go Go.RowKit
set_option maxRecDepth 4000
def leafP (a:Atm):Pd:=.mk a.1 0 a.2.1 a.2.2.1 a.2.2.2 []
theorem int_parts {k n p q:Int} {s:ByteArray} {l:List Pd} (h:IntOk (.mk k n p q s l)):(∀x ∈ l,IntOk x)∧((k=1∨k=2∨k=3∨k=4)∧l=[]∨k=5∧(∃x,l=[x])∨(k=6∨k=7∨k=8)∧∃x y,l=[x,y]):=by
 obtain⟨h1,h2,h8⟩:=h
 have h8:k≤8:=h8
 rw[allB_mk,Bool.and_eq_true,List.all_eq_true] at h1 h2
 have hpl:=locB_len h1.1
 have hn:needF k=1:=by unfold needF;rw[if_pos (by omega)]
 refine⟨fun x hx=>⟨h1.2 x hx,h2.2 x hx,res_int ((typ_parts h2.1 hx).trans hn)⟩,?_⟩
 have hk1:1≤k:=by
  by_cases e:1≤k
  ·exact e
  ·exfalso
   have:partsF k = -1:=by unfold partsF;rw[if_neg (by omega),if_neg (by omega),if_neg (by omega)]
   omega
 have hk:(k=1∨k=2∨k=3∨k=4)∨k=5∨(k=6∨k=7∨k=8):=by omega
 rcases hk with hk|hk|hk
 ·left
  have:partsF k=0:=by rcases hk with rfl|rfl|rfl|rfl <;> decide
  exact⟨hk,List.length_eq_zero_iff.1 (by omega)⟩
 ·right;left
  subst hk
  have:partsF 5=1:=by decide
  exact⟨rfl,ln1 (by omega)⟩
 ·right;right
  have:partsF k=2:=by rcases hk with rfl|rfl|rfl <;> decide
  exact⟨hk,ln2 (by omega)⟩
theorem lv_sub (ps:List Pr) (x:Pd):IntOk x→∀a ∈ lvF x,(∀f,allB f x=true→f (leafP a)=true)∧(fitB ps x=true→fitB ps (leafP a)=true):=by
 induction x using Pd.ind with
 | _ k n p q s l ih =>
 intro hio a ha
 obtain⟨hsub,hc⟩:=int_parts hio
 rw[lvF_mk] at ha
 by_cases hk:k=2∨k=3∨k=4
 ·rw[if_pos hk] at ha
  obtain rfl:=List.mem_singleton.1 ha
  have hl:l=[]:=by
   rcases hc with ⟨_,h⟩|⟨h,_⟩|⟨h,_⟩
   ·exact h
   ·omega
   ·omega
  subst hl
  have h1:=hio.1
  rw[allB_mk,Bool.and_eq_true] at h1
  have hn:=(loc_len h1.1).2
  unfold numB at hn
  rw[if_neg (by omega),decide_eq_true_eq] at hn
  subst hn
  refine⟨fun f hf => ?_,fun h=>h⟩
  rw[allB_mk,Bool.and_eq_true] at hf
  exact hf.1
 ·rw[if_neg hk] at ha
  have hmem:∃y ∈ l,a ∈ lvF y:=by
   clear ih hc hsub hio
   induction l with
   | nil=>rw[lvL] at ha;cases ha
   | cons y l ih =>
    rw[lvL] at ha
    rcases List.mem_append.1 ha with ha|ha
    ·exact⟨y,by simp,ha⟩
    ·obtain⟨z,hz,h⟩:=ih ha
     exact⟨z,List.mem_cons_of_mem _ hz,h⟩
  obtain⟨y,hy,hay⟩:=hmem
  obtain⟨g1,g2⟩:=ih y hy (hsub y hy) a hay
  refine⟨fun f hf => ?_,fun hf => ?_⟩
  ·rw[allB_mk,Bool.and_eq_true,List.all_eq_true] at hf
   exact g1 f (hf.2 y hy)
  ·have h8:k≤8:=hio.2.2
   have hy8:y.kind≤8:=(hsub y hy).2.2
   refine g2 ?_
   have hfy:fitB ps y=(intF ps y).2.2:=by
    obtain⟨k',n',p',q',s',l'⟩:=y
    rw[fitB_mk,if_pos (show k'≤8 from hy8)]
   rw[hfy]
   rw[fitB_mk,if_pos h8,intF_mk] at hf
   rcases hc with ⟨_,rfl⟩|⟨_,x,rfl⟩|⟨_,x,z,rfl⟩
   ·cases hy
   ·obtain rfl:=List.mem_singleton.1 hy
    simp only[List.map_cons,List.map_nil,bdN] at hf
    split at hf
    ·assumption
    ·cases hf
   ·simp only[List.map_cons,List.map_nil,bdN] at hf
    split at hf
    ·rename_i h9
     rcases List.mem_cons.1 hy with rfl|hy
     ·exact h9.1
     ·obtain rfl:=List.mem_singleton.1 hy
      exact h9.2
    ·cases hf
theorem lvs_len (x:Pd):IntOk x→2 * (lvF x).length≤szF x+1:=by
 induction x using Pd.ind with
 | _ k n p q s l ih =>
 intro hio
 obtain⟨hsub,hc⟩:=int_parts hio
 rw[lvF_mk,szF]
 split
 ·simp only[List.length_singleton];omega
 ·rcases hc with ⟨_,rfl⟩|⟨_,x,rfl⟩|⟨_,x,y,rfl⟩
  ·simp [lvL]
  ·have h1:=ih x (by simp) (hsub x (by simp))
   simp only[lvL,szL,List.append_nil];omega
  ·have h1:=ih x (by simp) (hsub x (by simp))
   have h2:=ih y (by simp) (hsub y (by simp))
   simp only[lvL,szL,List.append_nil,List.length_append];omega
theorem lin_len {x y:Pd} {c:Int} {h:Tms} (hx:IntOk x) (hy:IntOk y) (hs:LinS (dfP x y) c h):2 * h.length≤szF x+szF y+2:=by
 have h1:=lvs_len x hx
 have h2:=lvs_len y hy
 have h3:=List.Nodup.length_le_of_subset hs.ok.nd (l₂:=lvF x ++ lvF y) (fun a ha=>by
  obtain⟨z,hz,rfl⟩:=List.mem_map.1 ha
  have:=hs.mem z hz
  unfold dfP at this
  rw[lvF_mk,if_neg (by decide),lvL,lvL,lvL,List.append_nil] at this
  exact this)
 rw[List.length_map,List.length_append] at h3
 omega
theorem pred_cmp {u:Pd} (h:PredOk u):u.kind≤12→∃k x y,(k=9∨k=10∨k=11∨k=12)∧u=nd k [x,y]∧IntOk x∧IntOk y:=by
 refine PredOk.ind (P:=fun u=>u.kind≤12→∃k x y,(k=9∨k=10∨k=11∨k=12)∧u=nd k [x,y]∧IntOk x∧IntOk y) ?_ ?_ ?_ ?_ ?_ u h
 ·intro k hk h
  exact absurd h (by rcases hk with rfl|rfl <;> exact of_decide_eq_false rfl)
 ·intro k x y hk hx hy _
  exact⟨k,x,y,hk,rfl,hx,hy⟩
 ·intro x _ _ h
  exact absurd h (of_decide_eq_false rfl)
 ·intro k x y hk _ _ _ _ h
  exact absurd h (by rcases hk with rfl|rfl <;> exact of_decide_eq_false rfl)
 ·intro k x hk _ _ h
  exact absurd h (by rcases hk with rfl|rfl|rfl|rfl <;> exact of_decide_eq_false rfl)
theorem int_ntm (t:Pd):IntOk t→allB ntmB t=true:=by
 induction t using Pd.ind with
 | _ k n p q s l ih =>
 intro h
 have h8:k≤8:=h.2.2
 rw[allB_mk,Bool.and_eq_true,List.all_eq_true]
 exact⟨by show (!decide (18≤k∧k≤21))=true;rw[decide_eq_false (by omega)];rfl,fun x hx=>ih x hx ((int_parts h).1 x hx)⟩
theorem cmp_ntm (t:Pd) (h:PredOk t):∀b,(normF t b).kind≤12→allB ntmB t=true:=by
 refine PredOk.ind (P:=fun t=>∀b,(normF t b).kind≤12→allB ntmB t=true) ?_ ?_ ?_ ?_ ?_ t h
 ·intro k hk b _
  rw[nd_allB,ntm_nd]
  rcases hk with rfl|rfl <;> decide
 ·intro k x y hk hx hy b _
  rw[nd_allB,ntm_nd]
  simp only[List.all_cons,List.all_nil,int_ntm x hx,int_ntm y hy]
  rcases hk with rfl|rfl|rfl|rfl <;> decide
 ·intro x _ ih b hb
  rw[norm_not] at hb
  rw[nd_allB,ntm_nd]
  simp only[List.all_cons,List.all_nil,ih _ hb]
  decide
 ·intro k x y hk _ _ _ _ b hb
  rw[norm_bin k hk] at hb
  have hb:(if b then oppF k else k)≤12:=hb
  rcases hk with rfl|rfl <;> (cases b <;> (exact absurd hb (by decide)))
 ·intro k x hk _ _ b hb
  rw[norm_tmp k hk] at hb
  have hb:(if b then oppF k else k)≤12:=hb
  rcases hk with rfl|rfl|rfl|rfl <;> (cases b <;> (exact absurd hb (by decide)))
inductive TrmR (t:Pd):AV→Prop
 | no:TrmR t (.tup [anil,ai 0,ai 0,ai 15])
 | yes (k:Int) (x y:Pd) (c:Int) (h:Tms) (l:List Trm) (hk:k=9∨k=10∨k=11∨k=12) (hn:normF t false=nd k [x,y]) (hx:IntOk x) (hy:IntOk y) (hs:LinS (dfP x y) c h) (ha:∀a ∈ h,a.1.1=2) (hne:h ≠ []) (hp:l.Perm (h.map trm)) (hso:l.Pairwise fun x y=>¬cmpT y x<0) :
   TrmR t (.tup [.sl 3 (l.map aTm),ai k,ai (-c),ai 0])
theorem classify_checked (ps:List Pr) (hs:Sm ps) (t:Pd) (hz:szF t≤1000000) (hck:checkF ps t=0) (hp:prdF t=0):PC Proofs.Tryz.prog 26 [aTr ps,aPd t] (.tup [aPd (normF t false),ai 0]):=by
 have h1:=predtype_Check ps hs t hz
 rw[hck] at h1
 have h2:=classify_Normal t hz
 unfold nrmF at h2
 rw[if_pos hp,hp] at h2
 obtain⟨k,n,p,q,s,X,hT⟩:=aPd_shape t
 obtain⟨k',n',p',q',s',X',hN⟩:=aPd_shape (normF t false)
 have hTr:aTr ps = .agg [.sl 3 (ps.map aPr)]:=rfl
 rw[hT,hTr] at h1
 rw[hT,hN] at h2
 rw[hT,hTr,hN]
 refine PC.enter 18 [.cell 4 27,.tmp 5] [2,3] Proofs.Tryz.func26 rfl rfl rfl rfl rfl (by simp) (AWp.of ?_);simp only[go_sem]
 intro b4
 refine Wk ?_
 refine Sd ?_
 refine(h1).val.use ?_;simp only[go_sem]
 refine Wk ?_
 refine Sd ?_
 refine(h2).val.use ?_;simp only[go_sem]
 refine Wk ?_
 refine ret_eq ?_;simp only[go_sem]
set_option maxHeartbeats 1000000 in
theorem classify_Terms (ps:List Pr) (hs:Sm ps) (t:Pd) (hz:szF t≤1000000) (hck:checkF ps t=0) (hp:prdF t=0):MCalls Proofs.Tryz.prog 9 [aTr ps,aPd t] [] fun r L=>L=[]∧TrmR t r:=by
 have h1:=classify_checked ps hs t hz hck hp
 have hok:=norm_ok t (prd_ok hp) false
 have hzn:=Nat.le_trans hok.sz hz
 have h2:MCalls Proofs.Tryz.prog 27 [aPd (normF t false)] [] fun r L=>L=[]∧∃a b c,((r = .tup [anil,ai 0,ai 0,ab false])∨(r = .tup [a,b,c,ab true]∧TrmR t (.tup [a,b,c,ai 0])∧(∃X,a = .sl 3 X)∧(∃n,b=ai n)∧∃n,c=ai n)):=by
  by_cases hk:9≤(normF t false).kind∧(normF t false).kind≤12
  ·obtain⟨k,x,y,hk4,hn,hx,hy⟩:=pred_cmp hok.ok hk.2
   have hzx:szF (normF t false)=szF x+szF y+1:=by rw[hn,nd_szF];simp only[szL];omega
   have hc:=classify_compared k (by omega) 0 0 0 ByteArray.empty x y (by omega) (by omega) hx hy
   rw[show Pd.mk k 0 0 0 ByteArray.empty [x,y]=normF t false from hn.symm] at hc
   refine(classify_sum (normF t false) (dfP x y) hc fun c h hs=>by have:=lin_len hx hy hs;omega).mono ?_
   rintro r L ⟨rfl,hR⟩
   refine⟨rfl,?_⟩
   generalize hkk:(normF t false).kind=kk at hR
   rcases hR with _|⟨c,h,l,g1,g2,g3,g4,g5⟩
   ·exact⟨.any,.any,.any,.inl rfl⟩
   ·have:kk=k:=by rw[← hkk,hn];rfl
    subst this
    exact⟨_,_,_,.inr ⟨rfl,.yes _ x y c h l hk4 hn hx hy g1 g2 g3 g4 g5,⟨_,rfl⟩,⟨_,rfl⟩,⟨_,rfl⟩⟩⟩
  ·have hc:=classify_comparedN (normF t false) hk
   have hz1:IntOk (.mk 1 0 0 0 ByteArray.empty []):=⟨by rw[allB_mk];simp [locB,numB,nameB,partsF],by rw[allB_mk];rfl,by decide⟩
   refine(classify_sum (normF t false) (dfP (.mk 1 0 0 0 ByteArray.empty []) (.mk 1 0 0 0 ByteArray.empty [])) (hc.mono fun r L h=>⟨h.2,by rw[h.1];exact .no _ _ (.inl rfl)⟩) fun c h hs => ?_).mono ?_
   ·have:=lin_len hz1 hz1 hs
    simp only[szF,szL] at this
    omega
   ·rintro r L ⟨rfl,hR⟩
    refine⟨rfl,.any,.any,.any,.inl ?_⟩
    rcases hR with _|⟨c,h,l,g1,g2,g3,g4,g5⟩
    ·rfl
    ·exfalso
     cases h with
     | nil=>exact g3 rfl
     | cons a h =>
      have:=g1.mem a (by simp)
      unfold dfP at this
      rw[lvF_mk,if_neg (by decide),lvL,lvL,lvL,lvF_mk,if_neg (by decide),lvL] at this
      cases this
 have hno:=TrmR.no (t:=t)
 generalize TrmR t=RR at *
 obtain⟨k,n,p,q,s,X,hT⟩:=aPd_shape t
 obtain⟨k',n',p',q',s',X',hN⟩:=aPd_shape (normF t false)
 have hTr:aTr ps = .agg [.sl 3 (ps.map aPr)]:=rfl
 rw[hT,hTr,hN] at h1
 rw[hN] at h2
 rw[hT,hTr]
 refine MCalls.enter' 31 [.tmp 4,.tmp 5,.tmp 6,.tmp 7] [2,3,8] Proofs.Tryz.func9 rfl rfl rfl rfl rfl (by simp) (AWp.of ?_);simp only[go_sem]
 refine Wk ?_
 refine Sd ?_
 refine(h1).val.use ?_;simp only[go_sem]
 refine Wk ?_
 intro b8
 refine Sd ?_
 refine Wk ?_
 refine(MVal.frame (Lm:=[]) (Lr:=_) h2.val).mono ?_
 rintro r L ⟨L1,rfl,rfl,a,b,c,rfl|⟨rfl,hR,⟨Y,rfl⟩,⟨m1,rfl⟩,⟨m2,rfl⟩⟩⟩
 ·simp only[go_sem]
  refine Wk ?_
  refine ret_viewK [] _ ⟨rfl,hno⟩ ?_
  simp only[go_sem]
  exact .refl _
 ·simp only[go_sem]
  refine Wk ?_
  refine ret_viewK [] _ ⟨rfl,hR⟩ ?_
  simp only[go_sem]
  exact .refl _
theorem evaluate_IntC (ps:List Pr) (hs:Sm ps) (c:List Int) (hcl:c.length≤1000000) (t:Pd) (hz:szF t≤1000000) (hck:checkF ps t=0) (hgv:givenF ps [c] []=0) (hcp:c.length=ps.length) (hk:t.kind≤8) (htm:allB ntmB t=true):PC Proofs.Tryz.prog 11 [aTr ps,aInts c,aPd t] (.tup [ai (valF (cutO ps c (undF ps c)) t),ai 0]):=by
 have hE:atE ps c t 1=0:=by
  unfold atE
  rw[if_neg (by omega),hck,if_neg (by decide),hgv,if_neg (by decide),res_of_int hk,if_neg (by decide),htm]
  rfl
 have h1:=evaluate_at ps hs c hcl t hz 1
 rw[hE] at h1
 obtain⟨g6,g7,g8,g9⟩:=checkF_zero hck
 have h3:atV ps c t=aView ps c (valuesAt ps c):=by unfold atV;rw[if_neg (by rintro(h|h|h);exact h hcp;exact h hck;exact h hgv)]
 have g10:=g8
 unfold okT at g10
 simp only[Bool.and_eq_true] at g10
 obtain⟨l1,l2⟩:=und_leaf2 ps hs c hgv t g10.1.2
 have hfi:(intF ps t).2.2=true:=by
  obtain⟨k,n,p,q,s,l⟩:=t
  rw[fitB_mk,if_pos (show k≤8 from hk)] at g9
  exact g9
 have h2:=view_number ps c _ _ hcl t hz g8 hk hfi l2 l1
 rw[h3] at h1
 generalize valF (cutO ps c (undF ps c)) t=b at *
 obtain⟨k,n,p,q,s,l⟩:=t
 unfold aView at *
 simp only[aPd_mk] at *
 refine PC.enter 23 [.tmp 6,.tmp 7] [3,5,8] Proofs.Tryz.func11 rfl rfl rfl rfl rfl (by simp) (AWp.of ?_);simp only[go_sem]
 refine Wk ?_
 refine Sd ?_
 refine(h1).val.use ?_;simp only[go_sem]
 refine Wk ?_
 intro b8
 refine Wk ?_
 refine Sd ?_
 refine(h2).val.use ?_;simp only[go_sem]
 refine Wk ?_
 refine ret_eq ?_;simp only[go_sem]
theorem atom_check (ps:List Pr) (x:Pd) (hx:IntOk x) (hv:validF ps=true) (hr:allB (resB ps) x=true) (hf:fitB ps x=true) (a:Atm) (ha:a ∈ lvF x) (h2:a.1=2):checkF ps (.mk 2 0 a.2.1 0 a.2.2.2 [])=0:=by
 obtain⟨g1,g2⟩:=lv_sub ps x hx a ha
 have e1:=g1 _ hx.1
 have e2:=g1 _ hr
 have e3:=g1 _ hx.2.1
 have e4:=g2 hf
 obtain⟨a1,p,q,s⟩:=a
 have h2:a1=2:=h2
 subst h2
 have hq:q=0:=by
  have h:(isPB ps.length p && decide (q=0) && knownB ps p s)=true:=e2
  rw[Bool.and_eq_true,Bool.and_eq_true,decide_eq_true_eq] at h
  exact h.1.2
 subst hq
 have e1:locB (.mk 2 0 p 0 s [])=true:=e1
 have e2:resB ps (.mk 2 0 p 0 s [])=true:=e2
 have e3:typB (.mk 2 0 p 0 s [])=true:=e3
 have e4:fitB ps (.mk 2 0 p 0 s [])=true:=e4
 have hone:∀f,f (.mk 2 0 p 0 s [])=true→allB f (.mk 2 0 p 0 s [])=true:=fun f h=>by rw[allB_mk,h];rfl
 have hfo:formedB (.mk 2 0 p 0 s [])=true:=by
  unfold formedB
  rw[hone _ e1]
  rfl
 show checkF ps (.mk 2 0 p 0 s [])=0
 unfold checkF
 rw[hv,hfo,hone _ e2,show typedB (.mk 2 0 p 0 s [])=true from hone _ e3,e4]
 rfl
theorem atom_val (o:Obs) (a:Atm) (h2:a.1=2):valF o (.mk 2 0 a.2.1 0 a.2.2.2 [])=obV o a:=by
 rw[valF_mk]
 unfold obV
 rw[if_pos h2]
 rfl
end Go.AL
end
section
namespace Go.AL
open Go Go.RowKit Go.Lib Go.Sort Go.Proofs Go.Shelf
set_option maxRecDepth 4000
structure TmsOk (h:Tms) (l:List Trm):Prop where
 ok:OkT h
 at0:∀x ∈ h,x.1.1=2∧x.1.2.2.1=0
 perm:l.Perm (h.map trm)
 so:l.Pairwise fun x y=>¬cmpT y x<0
def atmT (t:Trm):Atm:=(2,t.1,0,t.2.1)
theorem trm_atm {x:Atm × Int} (h:x.1.1=2∧x.1.2.2.1=0):atmT (trm x)=x.1:=by
 obtain⟨⟨a,p,q,s⟩,n⟩:=x
 obtain⟨h1,h2⟩:=h
 have h1:a=2:=h1
 have h2:q=0:=h2
 subst h1;subst h2;rfl
theorem tms_mem {h:Tms} {l:List Trm} (H:TmsOk h l) {t:Trm} (ht:t ∈ l):∃x ∈ h,trm x=t∧atmT t=x.1:=by
 obtain⟨x,hx,rfl⟩:=List.mem_map.1 (H.perm.mem_iff.1 ht)
 exact⟨x,hx,rfl,trm_atm (H.at0 x hx)⟩
theorem tms_coef {h:Tms} {l:List Trm} (H:TmsOk h l) {t:Trm} (ht:t ∈ l):t.2.2 ≠ 0∧NumB t.2.2:=by
 obtain⟨x,hx,rfl,_⟩:=tms_mem H ht
 exact H.ok.co x hx
theorem tms_nd {h:Tms} {l:List Trm} (H:TmsOk h l):(l.map atmT).Nodup:=by
 have h1:=H.perm.map atmT
 have h2:(h.map trm).map atmT=h.map Prod.fst:=by
  rw[List.map_map]
  exact List.map_congr_left fun x hx=>trm_atm (H.at0 x hx)
 rw[h2] at h1
 exact h1.nodup_iff.2 H.ok.nd
theorem tms_asc {h:Tms} {l:List Trm} (H:TmsOk h l) {i:Nat} (hi:i<l.length) (h0:0<i):¬(l[i].1<l[i - 1].1)∧(l[i].1=l[i - 1].1→(Op.bytesLess l[i].2.1.toList l[i - 1].2.1.toList || seqB l[i].2.1 l[i - 1].2.1)=false):=by
 have h1:=List.pairwise_iff_getElem.1 H.so (i - 1) i (by omega) hi (by omega)
 rw[cmpT_neg] at h1
 have h2:atmT l[i - 1] ≠ atmT l[i]:=by
  have:=List.pairwise_iff_getElem.1 (tms_nd H) (i - 1) i (by rw[List.length_map];omega) (by rw[List.length_map];exact hi) (by omega)
  rwa [List.getElem_map,List.getElem_map] at this
 refine⟨fun g=>h1 (.inl g),fun g => ?_⟩
 rw[Bool.or_eq_false_iff,bytesLess_eq,seqB_dec',decide_eq_false_iff_not,decide_eq_false_iff_not]
 refine⟨fun e=>h1 (.inr ⟨g,e⟩),fun e=>h2 ?_⟩
 unfold atmT
 rw[g,e]
theorem sumI_terms (v:Atm→Int):∀h:Tms,(∀x ∈ h,x.1.1=2∧x.1.2.2.1=0)→sumI ((h.map trm).map fun t=>t.2.2 * v (atmT t))=sT v h
 | [],_=>rfl
 | x :: h,H=>by
  have ih:=sumI_terms v h fun y hy=>H y (List.mem_cons_of_mem _ hy)
  rw[List.map_cons,List.map_cons,sumI,ih,sT,trm_atm (H x (by simp))]
  rfl
theorem tms_sum {h:Tms} {l:List Trm} (H:TmsOk h l) (v:Atm→Int):sumI (l.map fun t=>t.2.2 * v (atmT t))=sT v h:=by
 rw[← sumI_terms v h H.at0]
 exact sumI_perm (H.perm.map _)
theorem peer0 (ps:List Pr) (x:Pd) (hx:IntOk x) (hr:allB (resB ps) x=true) (a:Atm) (ha:a ∈ lvF x) (h2:a.1=2):a.2.2.1=0:=by
 have e2:=(lv_sub ps x hx a ha).1 _ hr
 obtain⟨a1,p,q,s⟩:=a
 have h2:a1=2:=h2
 subst h2
 have h:(isPB ps.length p && decide (q=0) && knownB ps p s)=true:=e2
 rw[Bool.and_eq_true,Bool.and_eq_true,decide_eq_true_eq] at h
 exact h.1.2
theorem tms_of {ps:List Pr} {x y:Pd} {c:Int} {h:Tms} {l:List Trm} (hx:IntOk x) (hy:IntOk y) (rx:allB (resB ps) x=true) (ry:allB (resB ps) y=true) (hs:LinS (dfP x y) c h) (h2:∀a ∈ h,a.1.1=2) (hp:l.Perm (h.map trm)) (hso:l.Pairwise fun x y=>¬cmpT y x<0):TmsOk h l:=by
 refine⟨hs.ok,fun a ha=>⟨h2 a ha,?_⟩,hp,hso⟩
 have:=hs.mem a ha
 unfold dfP at this
 rw[lvF_mk,if_neg (by decide),lvL,lvL,lvL,List.append_nil] at this
 rcases List.mem_append.1 this with g|g
 ·exact peer0 ps x hx rx _ g (h2 a ha)
 ·exact peer0 ps y hy ry _ g (h2 a ha)
theorem sumI_take {l:List Int} {i:Nat} (hi:i<l.length):sumI (l.take (i+1))=sumI (l.take i)+l[i]:=by
 rw[List.take_succ_eq_append_getElem hi,sumI_app,sumI,sumI]
 omega
theorem sumI_bound {B:Int} (hB:0≤B):∀l:List Int,(∀x ∈ l,-B≤x∧x≤B) → -(l.length * B)≤sumI l∧sumI l≤l.length * B
 | [],_=>by simp [sumI]
 | x :: l,h=>by
  have ih:=sumI_bound hB l fun y hy=>h y (List.mem_cons_of_mem _ hy)
  have hx:=h x (by simp)
  rw[sumI,List.length_cons,Int.natCast_add,Int.add_mul]
  omega
end Go.AL
end
section
namespace Go.AL
open Go Go.RowKit
set_option maxRecDepth 4000
theorem term_Int (ps:List Pr) (hs:Sm ps) (c:List Int) (hcl:c.length≤1000000) (hv:validF ps=true) (hc:isF ps c=true) (p:Int) (s:ByteArray) (hck:checkF ps (.mk 2 0 p 0 s [])=0) :
  PC Proofs.Tryz.prog 11 [aTr ps,aInts c,.agg [ai 2,ai 0,ai p,ai 0,astr s,anil]] (.tup [ai (obV (cutO ps c (undF ps c)) (2,p,0,s)),ai 0]) ∧ -1125899906842624≤obV (cutO ps c (undF ps c)) (2,p,0,s)∧obV (cutO ps c (undF ps c)) (2,p,0,s)≤1125899906842624:=by
 have hgv:=(isF_given hv).2 hc
 have hcp:=(isF_iff.1 hc).1
 have h1:=evaluate_IntC ps hs c hcl (.mk 2 0 p 0 s []) (by show 1≤1000000;decide) hck hgv hcp (by show (2:Int)≤8;decide) rfl
 have e1:valF (cutO ps c (undF ps c)) (.mk 2 0 p 0 s [])=obV (cutO ps c (undF ps c)) (2,p,0,s):=atom_val (cutO ps c (undF ps c)) (2,p,0,s) rfl
 obtain⟨g6,g7,g8,g9⟩:=checkF_zero hck
 have g10:=g8
 unfold okT at g10
 simp only[Bool.and_eq_true] at g10
 obtain⟨_,l1⟩:=und_leaf2 ps hs c hgv _ g10.1.2
 have hfi:(intF ps (.mk 2 0 p 0 s [])).2.2=true:=by
  rw[fitB_mk,if_pos (show (2:Int)≤8 by decide)] at g9
  exact g9
 have b:=valF_bounds ps (cutO ps c (undF ps c)) (.mk 2 0 p 0 s []) g8 (by show (2:Int)≤8;decide) l1 hfi
 rw[e1] at h1 b
 refine⟨(PC.view (L:=[]) (K:=fun r L=>r = .tup [ai (obV (cutO ps c (undF ps c)) (2,p,0,s)),ai 0]∧L=[]) (Vws.cons (.refl _) (Vws.cons (.refl _) (Vws.cons (raw_leaf ..) .nil))) h1 (Own.tup2 (Own.v _) (Own.v _)) ⟨rfl,rfl⟩).pc ?_,by omega,by omega⟩
 rintro r L ⟨rfl,rfl⟩
 exact .refl _
theorem tms_check {ps:List Pr} {x y:Pd} {d:Int} {h:Tms} {l:List Trm} (hx:IntOk x) (hy:IntOk y) (hv:validF ps=true) (rx:allB (resB ps) x=true) (ry:allB (resB ps) y=true) (fx:fitB ps x=true) (fy:fitB ps y=true) (hl:LinS (dfP x y) d h) (hT:TmsOk h l) {t:Trm} (ht:t ∈ l):checkF ps (.mk 2 0 t.1 0 t.2.1 [])=0:=by
 obtain⟨z,hz,rfl,e⟩:=tms_mem hT ht
 have hm:=hl.mem z hz
 have h2:z.1.1=2:=(hT.at0 z hz).1
 unfold dfP at hm
 rw[lvF_mk,if_neg (by decide),lvL,lvL,lvL,List.append_nil] at hm
 rcases List.mem_append.1 hm with g|g
 ·exact atom_check ps x hx hv rx fx _ g h2
 ·exact atom_check ps y hy hv ry fy _ g h2
theorem prod_ok {n v:Int} (hn:NumB n) (h1 : -1125899906842624≤v) (h2:v≤1125899906842624) (h0:¬v=0):∃A B q:Int,(if n < -n then -n else n)=A∧(if v < -v then -v else v)=B∧¬B=0∧IntKind.i64.wrap (Int.tdiv 1125899906842624 B)=q∧(¬q<A → -1125899906842624≤n * v∧n * v≤1125899906842624):=by
 unfold NumB at hn
 refine⟨_,_,_,rfl,rfl,?_,rfl,?_⟩
 ·split <;> omega
 ·obtain⟨B,hB⟩:∃B:Nat,(if v < -v then -v else v)=(B:Int):=⟨v.natAbs,by split <;> omega⟩
  obtain⟨A,hA⟩:∃A:Nat,(if n < -n then -n else n)=(A:Int):=⟨n.natAbs,by split <;> omega⟩
  have eA:A=n.natAbs:=by split at hA <;> omega
  have eB:B=v.natAbs:=by split at hB <;> omega
  rw[hA,hB]
  have hq:Int.tdiv 1125899906842624 (B:Int)=((1125899906842624 / B:Nat):Int):=rfl
  have hl:1125899906842624 / B≤1125899906842624:=Nat.div_le_self _ _
  have hd:=Nat.div_mul_le_self 1125899906842624 B
  rw[hq]
  generalize 1125899906842624 / B=Q at *
  rw[IntWalk.i64_in _ (by omega)]
  intro h
  have h4:A * B≤1125899906842624:=Nat.le_trans (Nat.mul_le_mul_right B (by omega:A≤Q)) hd
  rw[eA,eB,← Int.natAbs_mul] at h4
  omega
set_option maxHeartbeats 2000000 in
theorem law30_ClassifySums (ps:List Pr) (t:Pd) (c:List Int) (hpl:ps.length≤9223372036854775807) (hev:∀p ∈ ps,p.evs.length≤9223372036854775807):PC Proofs.Tryz.prog 3 [aTr ps,aPd t,aInts c] (ab true):=by
 have hA:=law30_awake
 have hF:=law30_few ps hpl hev
 have hS:=law30_small t
 obtain⟨k,n,p,q,s,XT,hT⟩:=aPd_shape t
 have hTr:aTr ps = .agg [.sl 3 (ps.map aPr)]:=rfl
 cases hfw:fwB ps with
 | false =>
  rw[hfw,hTr] at hF
  rw[hT] at hS ⊢
  rw[hTr]
  refine PC.enter 201 [.tmp 6] [3,4,15] Proofs.Tryz.func3 rfl rfl rfl rfl rfl (by simp) (AWp.of ?_);simp only[go_sem]
  refine Wk ?_
  refine Sd ?_
  refine(hA).val.use ?_;simp only[go_sem]
  refine Sd ?_
  refine Gc hF ?_
  refine Sd ?_
  refine GCall.use (ab false) (fun h=>absurd h (by simp)) ?_
  simp only[go_sem]
  refine GCall.use (ai 0) (fun h=>absurd h (by simp)) ?_
  simp only[go_sem]
  refine GCall.use (ab false) (fun h=>absurd h (by simp)) ?_
  simp only[go_sem]
  refine Wk ?_
  refine Sd ?_
  refine(hA).val.use ?_;simp only[go_sem]
  refine Wk ?_
  refine ret_eq ?_;simp only[go_sem]
 | true =>
 rw[hfw,hTr] at hF
 have hvd:=vd_of (fwB_sm hfw)
 by_cases hsm:smlB t=true
 rotate_left
 ·rw[show smlB t=false by simpa using hsm] at hS
  rw[hT] at hS ⊢
  rw[hTr]
  refine PC.enter 201 [.tmp 6] [3,4,15] Proofs.Tryz.func3 rfl rfl rfl rfl rfl (by simp) (AWp.of ?_);simp only[go_sem]
  refine Wk ?_
  refine Sd ?_
  refine(hA).val.use ?_;simp only[go_sem]
  refine Sd ?_
  refine Gc hF ?_
  refine Sd ?_
  refine Sd ?_
  refine Gc hS ?_
  refine Sd ?_
  refine GCall.use (ai 0) (fun h=>absurd h (by simp)) ?_
  simp only[go_sem]
  refine GCall.use (ab false) (fun h=>absurd h (by simp)) ?_
  simp only[go_sem]
  refine Wk ?_
  refine Sd ?_
  refine(hA).val.use ?_;simp only[go_sem]
  refine Wk ?_
  refine ret_eq ?_;simp only[go_sem]
 have hz:=sml_size hsm
 rw[hsm] at hS
 cases hv:validF ps with
 | false =>
  have h1:=hvd.rval
  rw[hv] at h1
  have h2:=ref30_FaultN h1 t
  rw[hTr,hT] at h2
  rw[hT] at hS ⊢
  rw[hTr]
  refine PC.enter 201 [.tmp 6] [3,4,15] Proofs.Tryz.func3 rfl rfl rfl rfl rfl (by simp) (AWp.of ?_);simp only[go_sem]
  refine Wk ?_
  refine Sd ?_
  refine(hA).val.use ?_;simp only[go_sem]
  refine Sd ?_
  refine Gc hF ?_
  refine Sd ?_
  refine Sd ?_
  refine Gc hS ?_
  refine Sd ?_
  refine Sd ?_
  refine Gc h2 ?_
  refine Sd ?_
  refine GCall.use (ab false) (fun h=>absurd h (by simp)) ?_
  simp only[go_sem]
  repeat(first|((with_reducible refine AWp.ofC ?_ ?_);exact rfl;simp only[go_sem,Int.reduceEq])|((with_reducible refine an ?_ ?_);exact Au))
  refine Sd ?_
  refine(hA).val.use ?_;simp only[go_sem]
  refine Wk ?_
  refine ret_eq ?_;simp only[go_sem]
 | true =>
 have hs:=hvd.sm hv
 have hFa:=ref30_Fault ps hs t hz
 by_cases hE:treeF ps t 2=0
 rotate_left
 ·generalize treeF ps t 2=e at *
  rw[hTr,hT] at hFa
  rw[hT] at hS ⊢
  rw[hTr]
  refine PC.enter 201 [.tmp 6] [3,4,15] Proofs.Tryz.func3 rfl rfl rfl rfl rfl (by simp) (AWp.of ?_);simp only[go_sem]
  refine Wk ?_
  refine Sd ?_
  refine(hA).val.use ?_;simp only[go_sem]
  refine Sd ?_
  refine Gc hF ?_
  refine Sd ?_
  refine Sd ?_
  refine Gc hS ?_
  refine Sd ?_
  refine Sd ?_
  refine GCall.use (ai e) (fun _=>⟨At,(hFa).val.use ⟨rfl,rfl⟩⟩) ?_;simp only[go_sem,hE]
  refine Sd ?_
  refine GCall.use (ab false) (fun h=>absurd h (by simp [hE])) ?_
  simp only[go_sem]
  refine W1 hE ?_
  refine Sd ?_
  refine(hA).val.use ?_;simp only[go_sem]
  refine Wk ?_
  refine ret_eq ?_;simp only[go_sem]
 rw[hE] at hFa
 obtain⟨hck,hp⟩:=prd_of_check hE
 have hC:=ref22_Consistent ps hs hv c
 cases hc:isF ps c with
 | false =>
  rw[hc] at hC
  rw[hTr] at hC
  rw[hTr,hT] at hFa
  rw[hT] at hS ⊢
  rw[hTr]
  refine PC.enter 201 [.tmp 6] [3,4,15] Proofs.Tryz.func3 rfl rfl rfl rfl rfl (by simp) (AWp.of ?_);simp only[go_sem]
  refine Wk ?_
  refine Sd ?_
  refine(hA).val.use ?_;simp only[go_sem]
  refine Sd ?_
  refine Gc hF ?_
  refine Sd ?_
  refine Sd ?_
  refine Gc hS ?_
  refine Sd ?_
  refine Sd ?_
  refine Gc hFa ?_
  refine Sd ?_
  refine Sd ?_
  refine Gc hC ?_
  refine Sd ?_
  refine Wk ?_
  refine Sd ?_
  refine(hA).val.use ?_;simp only[go_sem]
  refine Wk ?_
  refine ret_eq ?_;simp only[go_sem]
 | true =>
 rw[hc,hTr] at hC
 have hps:=hs.procs
 have hcl:c.length≤1000000:=by have:=(isF_iff.1 hc).1;omega
 have hTe:=classify_Terms ps hs t hz hck hp
 have hyes:∀r,TrmR t r→r = .tup [anil,ai 0,ai 0,ai 15]∨∃(k:Int) (x y:Pd) (c:Int) (h:Tms) (l:List Trm),(k=9∨k=10∨k=11∨k=12)∧normF t false=nd k [x,y]∧IntOk x∧IntOk y∧LinS (dfP x y) c h∧(∀a ∈ h,a.1.1=2)∧h ≠ []∧l.Perm (h.map trm)∧(l.Pairwise fun x y=>¬cmpT y x<0)∧r = .tup [.sl 3 (l.map aTm),ai k,ai (-c),ai 0]:=fun r h=>by
  rcases h with _|⟨k,x,y,c,h,l,h1,h2,h3,h4,h5,h6,h7,h8,h9⟩
  ·exact .inl rfl
  ·exact .inr ⟨k,x,y,c,h,l,h1,h2,h3,h4,h5,h6,h7,h8,h9,rfl⟩
 generalize hRR:TrmR t=RR at *
 rw[hTr,hT] at hFa hTe
 rw[hT] at hS ⊢
 rw[hTr]
 refine PC.enter 201 [.tmp 6] [3,4,15] Proofs.Tryz.func3 rfl rfl rfl rfl rfl (by simp) (AWp.of ?_);simp only[go_sem]
 refine Wk ?_
 refine Sd ?_
 refine(hA).val.use ?_;simp only[go_sem]
 refine Sd ?_
 refine Gc hF ?_
 refine Sd ?_
 refine Sd ?_
 refine Gc hS ?_
 refine Sd ?_
 refine Sd ?_
 refine Gc hFa ?_
 refine Sd ?_
 refine Sd ?_
 refine Gc hC ?_
 refine Sd ?_
 refine Wk ?_
 refine(MVal.frame (Lm:=[]) (Lr:=_) hTe.val).mono ?_
 rintro r L ⟨L1,rfl,rfl,hR⟩
 rcases hyes r hR with rfl|⟨k,x,y,d,h,l,hk,hn,hx,hy,hl,ha,hne,hpm,hso,rfl⟩
 ·simp only[go_sem]
  repeat(first|((with_reducible refine AWp.ofC ?_ ?_);exact rfl;simp only[go_sem,Int.reduceEq])|((with_reducible refine an ?_ ?_);exact Au))
  refine ret_eq ?_;simp only[go_sem]
  rfl
 ·have hnt:allB ntmB t=true:=cmp_ntm t (prd_ok hp) false (by rw[hn];show k≤12;omega)
  have hps:=hs.procs
  have hcp:=(isF_iff.1 hc).1
  have hcl:c.length≤1000000:=by omega
  have hgv:=(isF_given hv).2 hc
  have hat:atE ps c t 2=0:=by
   unfold atE
   rw[if_neg (by rw[hcp];simp),hck,if_neg (by decide),hgv,if_neg (by decide),res_of_bool (prdF_zero hp).2.2,if_neg (by decide),hnt]
   rfl
  have g1:=evaluate_BoolC ps hs c hcl t hz hat
  have htr:=norm_tru (cutO ps c (undF ps c)) t (prd_ok hp) hnt false
  rw[hn] at htr
  rw[hTr,hT] at g1
  have hll:l.length=h.length:=by rw[hpm.length_eq,List.length_map]
  have h100:l.length≤100:=by
   have e1:=lin_len hx hy hl
   have e2:=(norm_ok t (prd_ok hp) false).sz
   rw[hn,nd_szF] at e2
   simp only[szL] at e2
   have e3:=(prdF_zero hp).1
   unfold formedB at e3
   simp only[Bool.and_eq_true,decide_eq_true_eq] at e3
   omega
  have h0:0<l.length:=by rw[hll];exact List.length_pos_iff.2 hne
  have q1:¬(l.length:Int)=0:=by omega
  have q2:¬(100:Int)<(l.length:Int):=by omega
  generalize hb:truF (cutO ps c (undF ps c)) t=b at *
  simp only[go_sem]
  refine Wk ?_
  refine Sd ?_
  refine(g1).val.use ?_;simp only[go_sem]
  refine W2 q1 q2 ?_
  have hck2:allB (resB ps) (normF t false)=true∧fitB ps (normF t false)=true:=by
   obtain⟨_,_,g3,g4⟩:=checkF_zero hck
   unfold okT at g3
   simp only[Bool.and_eq_true] at g3
   exact⟨norm_res ps t (prd_ok hp) g3.1.2 false,norm_fit ps t (prd_ok hp) g4 false⟩
  rw[hn,nd_allB,fit_nd ps (by omega)] at hck2
  simp only[Bool.and_eq_true,List.all_cons,List.all_nil,Bool.and_true] at hck2
  obtain⟨⟨_,rx,ry⟩,fx,fy⟩:=hck2
  have hT:=tms_of hx hy rx ry hl ha hpm hso
  refine AWp.range' l.length [13] [2,3,7,8,9,11,79,80] (fun i vs L=>L=[]∧vs=[ai (sumI ((l.take i).map fun t=>t.2.2 * obV (cutO ps c (undF ps c)) (atmT t)))]∧∀(j:Nat) (hj:j<l.length),j<i → -1125899906842624≤l[j].2.2 * obV (cutO ps c (undF ps c)) (atmT l[j])∧l[j].2.2 * obV (cutO ps c (undF ps c)) (atmT l[j])≤1125899906842624) (by omega) rfl rfl rfl ⟨rfl,rfl,fun _ _ h=>by omega⟩ ?_ ?_
  ·rintro i vs L hi - ⟨rfl,rfl,hI⟩
   have hmem:=List.getElem_mem hi
   obtain⟨n0,hnb⟩:=tms_coef hT hmem
   obtain⟨g2,hb1,hb2⟩:=term_Int ps hs c hcl hv hc _ _ (tms_check hx hy hv rx ry fx fy hl hT hmem)
   have hg:=getD_map (f:=aTm) hi
   have htk:=sumI_take (l:=l.map fun t=>t.2.2 * obV (cutO ps c (undF ps c)) (atmT t)) (i:=i) (by rw[List.length_map];exact hi)
   rw[← List.map_take,← List.map_take,List.getElem_map] at htk
   have hsb:=sumI_bound (B:=1125899906842624) (by decide) ((l.take i).map fun t=>t.2.2 * obV (cutO ps c (undF ps c)) (atmT t)) (fun x hx=>by
    obtain⟨t,ht,rfl⟩:=List.mem_map.1 hx
    obtain⟨j,hj,rfl⟩:=List.getElem_of_mem ht
    rw[List.length_take] at hj
    rw[List.getElem_take]
    exact hI j (by omega) (by omega))
   rw[List.length_map,List.length_take] at hsb
   have hI':∀x:Int,l[i].2.2 * obV (cutO ps c (undF ps c)) (atmT l[i])=x→(-1125899906842624≤x∧x≤1125899906842624)→∀(j:Nat) (hj:j<l.length),j<i+1 → -1125899906842624≤l[j].2.2 * obV (cutO ps c (undF ps c)) (atmT l[j])∧l[j].2.2 * obV (cutO ps c (undF ps c)) (atmT l[j])≤1125899906842624:=fun x e1 e2 j hj hlt=>by
    by_cases e:j=i
    ·subst e;rw[e1];exact e2
    ·exact hI j hj (by omega)
   have hasc:=fun h0=>tms_asc hT hi h0
   rw[hTr] at g2
   clear hI
   rw[htk]
   generalize sumI ((l.take i).map fun t=>t.2.2 * obV (cutO ps c (undF ps c)) (atmT t))=S at *
   have hlm:(l.map aTm).length=l.length:=List.length_map _
   have hp1:atmT l[i]=(2,l[i].1,0,l[i].2.1):=rfl
   have hprod:=prod_ok (v:=obV (cutO ps c (undF ps c)) (2,l[i].1,0,l[i].2.1)) hnb hb1 hb2
   have haT:aTm l[i] = .agg [ai l[i].1,astr l[i].2.1,ai l[i].2.2]:=rfl
   rw[haT] at hg
   rw[hp1] at hI' ⊢
   have hw1:∀x:Int,-1125899906842624≤x→x≤1125899906842624→IntKind.i64.wrap x=x:=fun x h1 h2=>IntWalk.i64_in _ (by omega)
   have hmul:∀a b:Int,mulW a b=IntKind.i64.wrap (a * b):=fun _ _=>rfl
   unfold NumB at hnb
   clear hp1 haT htk hRR hsm hE hFa hTe hn htr hT hl hx hy rx ry fx fy hnt hat hcl hcp hso hpm ha hne hll hyes
   have n1:¬l[i].2.2=0:=n0
   have n2:¬l[i].2.2 < -1125899906842624:=by omega
   have n3:¬1125899906842624<l[i].2.2:=by omega
   have hcs:(¬(0:Int)<(i:Nat)∧((i:Int) - 1).toNat=i)∨∃(j:Nat) (p:Int) (s:ByteArray) (n:Int),(0:Int)<(i:Nat)∧(i:Int) - 1=(j:Nat)∧j<l.length∧(l.map aTm).getD j .any = .agg [ai p,astr s,ai n]∧¬l[i].1<p∧(¬l[i].1=p∨(l[i].1=p∧Op.bytesLess l[i].2.1.toList s.toList=false∧seqB l[i].2.1 s=false)):=by
    rcases Nat.eq_zero_or_pos i with h0|h0
    ·exact .inl ⟨by omega,by omega⟩
    ·obtain⟨a1,a2⟩:=hasc h0
     refine .inr ⟨i - 1,l[i - 1].1,l[i - 1].2.1,l[i - 1].2.2,by omega,by omega,by omega,getD_map (f:=aTm) (by omega),a1,?_⟩
     by_cases e:l[i].1=l[i - 1].1
     ·exact .inr ⟨e,Bool.or_eq_false_iff.1 (a2 e)⟩
     ·exact .inl e
   clear hasc
   generalize obV (cutO ps c (undF ps c)) (2,l[i].1,0,l[i].2.1)=v at *
   generalize l[i].2.2=n at *
   generalize l[i].2.1=s at *
   generalize l[i].1=p at *
   simp only[go_sem]
   refine W1 hg ?_
   intro b15
   have z2:¬p<p:=Int.lt_irrefl p
   have z7:∀j:Nat,((j:Nat):Int).toNat=j:=fun _=>rfl
   obtain⟨zb,hzb⟩:∃zb,(Op.bytesLess s.toList s.toList || seqB s s)=zb:=⟨_,rfl⟩
   rcases hcs with ⟨z0,z1⟩|⟨j,p',s',n',z0,z1,z2',z3,z4,z5|⟨rfl,z6,z8⟩⟩
   repeat(first|(with_reducible refine AWp.seq ?_)|(with_reducible refine AWp.block ?_))
   refine AWp.mix mixed [0,1,2,3,4,5,6,7,8,9,10,11,12,13,14,15,16,17,18,19,20,21,22,23,24,25,26,27,28,29,30,31,32,33,34,35,36,37,38,39,40,41,42,43,44,45,46,47,48,49] .done (by kernel_rfl) ?_;simp only[go_sem,z0,z1,z2,hg,hzb,n1,n2,n3,hlm]
   rotate_left
   repeat(first|(with_reducible refine AWp.seq ?_)|(with_reducible refine AWp.block ?_))
   refine AWp.mix mixed [0,1,2,3,4,5,6,7,8,9,10,11,12,13,14,15,16,17,18,19,20,21,22,23,24,25,26,27,28,29,30,31,32,33,34,35,36,37,38,39,40,41,42,43,44,45,46,47,48,49] .done (by kernel_rfl) ?_;simp only[go_sem,z0,z1,z7,z3,z4,z5,n1,n2,n3,hlm]
   rotate_left
   repeat(first|(with_reducible refine AWp.seq ?_)|(with_reducible refine AWp.block ?_))
   refine AWp.mix mixed [0,1,2,3,4,5,6,7,8,9,10,11,12,13,14,15,16,17,18,19,20,21,22,23,24,25,26,27,28,29,30,31,32,33,34,35,36,37,38,39,40,41,42,43,44,45,46,47,48,49] .done (by kernel_rfl) ?_;simp only[go_sem,z0,z1,z7,z3,z4,z6,z8,n1,n2,n3,hlm]
   rotate_left
   all_goals
    refine Sd ?_
    refine Wk ?_
    refine Sd ?_
    refine(g2).val.use ?_;simp only[go_sem]
    refine Wk ?_
    by_cases hv0:v=0
    ·subst hv0
     have e1:mulW n 0=0:=by rw[hmul,Int.mul_zero];rfl
     have e2:(if (0:Int) < -0 then (-0:Int) else 0)=0:=rfl
     have hI2:=hI' 0 (Int.mul_zero n) (by omega)
     rw[Int.mul_zero]
     clear hI' hprod
     repeat(first|(with_reducible refine AWp.seq ?_)|(with_reducible refine AWp.block ?_))
     refine AWp.mix mixed [0,1,2,3,4,5,6,7,8,9,10,11,12,13,14,15] .done (by kernel_rfl) ?_;simp only[go_sem,e2]
     refine Sd ?_
     refine W1 e1 ?_
     refine Sd ?_
     exact⟨_,List.Sublist.refl _,rfl,hI2⟩
    ·obtain⟨A,B,q,e1,e2,e3,e4,e5⟩:=hprod hv0
     by_cases hq:q<A
     ·clear hI'
      repeat(first|(with_reducible refine AWp.seq ?_)|(with_reducible refine AWp.block ?_))
      refine AWp.mix mixed [0,1,2,3,4,5,6,7,8,9,10,11,12,13,14,15] .done (by kernel_rfl) ?_;simp only[go_sem,hv0,e1,e2,e3,e4,hq]
      refine Sd ?_
      refine Wk ?_
      refine ret_eq ?_;simp only[go_sem]
     ·have hI2:=hI' _ rfl (e5 hq)
      have e6:mulW n v=n * v:=by rw[hmul];exact hw1 _ (e5 hq).1 (e5 hq).2
      have e7:=e5 hq
      clear hI'
      repeat(first|(with_reducible refine AWp.seq ?_)|(with_reducible refine AWp.block ?_))
      refine AWp.mix mixed [0,1,2,3,4,5,6,7,8,9,10,11,12,13,14,15] .done (by kernel_rfl) ?_;simp only[go_sem,hv0,e1,e2,e3,e4,hq]
      refine Sd ?_
      refine W1 e6 ?_
      generalize n * v=z at *
      refine Sd ?_
      exact⟨_,List.Sublist.refl _,rfl,hI2⟩
  ·rintro vs L - ⟨rfl,rfl,hI⟩
   rw[List.take_length,tms_sum hT]
   have hvd:=hl.val (cutO ps c (undF ps c))
   unfold dfP at hvd
   rw[valF_mk] at hvd
   have hvd:valF (cutO ps c (undF ps c)) x - valF (cutO ps c (undF ps c)) y=d+sT (obV (cutO ps c (undF ps c))) h:=hvd
   generalize sT (obV (cutO ps c (undF ps c))) h=S at *
   unfold nd at htr
   rw[truF_mk] at htr
   simp only[List.map_cons,List.map_nil] at htr
   generalize valF (cutO ps c (undF ps c)) x=u at *
   generalize valF (cutO ps c (undF ps c)) y=w at *
   simp only[go_sem]
   rcases hk with rfl|rfl|rfl|rfl
   all_goals
    repeat(first|((with_reducible refine AWp.ofC ?_ ?_);exact rfl;simp only[go_sem,Int.reduceEq])|((with_reducible refine an ?_ ?_);exact Au))
    refine ret_eq ?_;simp only[go_sem]
    refine congrArg (fun z=>AV.v (.bool z)) (decide_eq_true ?_)
    cases b <;> simp [truN] at htr ⊢ <;> omega
end Go.AL
end
section
namespace Go.AL
open Go Go.RowKit
set_option maxRecDepth 100000
section
variable {H:Type} {enc:TypeId × Value→H} {W:World}
theorem rdInts:Rd enc Proofs.Tryz.prog W 28 1 aInts (fun l=>l.length≤maxLen) :=
 (Rd.slice Proofs.Tryz.underlying28 (by kernel_rfl:Program.cellsOf Proofs.Tryz.prog 3=1) (by decide) (Rd.int Proofs.Tryz.underlying3)).map id (fun _=>rfl) (fun _ h=>h.1)
theorem rdAsg:Rd enc Proofs.Tryz.prog W 151 2 aAsg (fun _=>True) :=
 (Rd.struct (ts:=[3,3]) Proofs.Tryz.underlying151 rfl rfl (by kernel_rfl) (by kernel_rfl)
  (.cons (Rd.int Proofs.Tryz.underlying3) (fun _=>⟨rfl,rfl⟩) (.cons (Rd.int Proofs.Tryz.underlying3) (fun _=>⟨rfl,rfl⟩) .nil))).map (fun (y:Int × Int × Unit)=>(y.1,y.2.1)) (fun _=>rfl) (fun _ _=>trivial)
theorem rdAsgs:Rd enc Proofs.Tryz.prog W 58 1 aAsgs (fun _=>True) :=
 (Rd.slice Proofs.Tryz.underlying58 (by kernel_rfl:Program.cellsOf Proofs.Tryz.prog 151=2) (by decide) rdAsg).map id (fun _=>rfl) (fun _ _=>trivial)
theorem rdVar:Rd enc Proofs.Tryz.prog W 46 2 aVar (fun _=>True) :=
 (Rd.struct (ts:=[9,3]) Proofs.Tryz.underlying46 rfl rfl (by kernel_rfl) (by kernel_rfl)
  (.cons (Rd.str Proofs.Tryz.underlying9) (fun _=>⟨rfl,rfl⟩) (.cons (Rd.int Proofs.Tryz.underlying3) (fun _=>⟨rfl,rfl⟩) .nil))).map (fun (y:ByteArray × Int × Unit)=>(y.1,y.2.1)) (fun _=>rfl) (fun _ _=>trivial)
theorem rdVars:Rd enc Proofs.Tryz.prog W 47 1 aVars (fun _=>True) :=
 (Rd.slice Proofs.Tryz.underlying47 (by kernel_rfl:Program.cellsOf Proofs.Tryz.prog 46=2) (by decide) rdVar).map id (fun _=>rfl) (fun _ _=>trivial)
theorem rdEv:Rd enc Proofs.Tryz.prog W 60 5 aEv (fun _=>True) :=
 (Rd.struct (ts:=[3,3,3,3,58]) Proofs.Tryz.underlying60 rfl rfl (by kernel_rfl) (by kernel_rfl)
  (.cons (Rd.int Proofs.Tryz.underlying3) (fun _=>⟨rfl,rfl⟩) (.cons (Rd.int Proofs.Tryz.underlying3) (fun _=>⟨rfl,rfl⟩) (.cons (Rd.int Proofs.Tryz.underlying3) (fun _=>⟨rfl,rfl⟩)
   (.cons (Rd.int Proofs.Tryz.underlying3) (fun _=>⟨rfl,rfl⟩) (.cons rdAsgs (fun _=>⟨rfl,rfl⟩) .nil)))))).map (fun (y:Int × Int × Int × Int × List (Int × Int) × Unit)=>⟨y.1,y.2.1,y.2.2.1,y.2.2.2.1,y.2.2.2.2.1⟩) (fun _=>rfl) (fun _ _=>trivial)
end
end Go.AL
end
section
namespace Go.AL
open Go Go.RowKit
set_option maxRecDepth 100000
def aPdC:Pd→List AV | .mk k n p q s l=>[ai k,ai n,ai p,ai q,astr s,.sl 6 (l.map aPd)]
theorem aPd_agg:∀y,aPd y = .agg (aPdC y):=fun ⟨k,n,p,q,s,l⟩=>by rw[aPd_mk];rfl
section
variable {H:Type} {enc:TypeId × Value→H} {W:World}
theorem rdPredN:∀N,RdF enc Proofs.Tryz.prog W N 27 6 aPd (fun _=>True)
 | 0 => .zero
 | N+1 =>
  (RdF.struct (ts:=[3,3,3,3,9,25]) Proofs.Tryz.underlying27 rfl rfl (by kernel_rfl) (by kernel_rfl)
   (.cons ((Rd.int Proofs.Tryz.underlying3).bounded N) (fun _=>⟨rfl,rfl⟩) (.cons ((Rd.int Proofs.Tryz.underlying3).bounded N) (fun _=>⟨rfl,rfl⟩) (.cons ((Rd.int Proofs.Tryz.underlying3).bounded N) (fun _=>⟨rfl,rfl⟩)
    (.cons ((Rd.int Proofs.Tryz.underlying3).bounded N) (fun _=>⟨rfl,rfl⟩) (.cons ((Rd.str Proofs.Tryz.underlying9).bounded N) (fun _=>⟨rfl,rfl⟩)
     (.cons ((RdF.slice Proofs.Tryz.underlying25 (by kernel_rfl:Program.cellsOf Proofs.Tryz.prog 27=6) (by decide) (rdPredN N)).mono (Nat.le_succ N)) (fun _=>⟨rfl,rfl⟩) .nil))))))).map
   (fun (y:Int × Int × Int × Int × ByteArray × List Pd × Unit)=>Pd.mk y.1 y.2.1 y.2.2.1 y.2.2.2.1 y.2.2.2.2.1 y.2.2.2.2.2.1) (fun _=>(aPd_mk _ _ _ _ _ _).symm) (fun _ _=>trivial)
theorem rdPred:Rd enc Proofs.Tryz.prog W 27 6 aPd (fun _=>True):=RdF.all rdPredN
end
end Go.AL
end
