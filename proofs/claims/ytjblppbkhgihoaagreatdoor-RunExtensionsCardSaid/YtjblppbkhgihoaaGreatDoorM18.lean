/- Texts of this claim's proof: WJ7, WJ11, WJ12, WJ13. No condition. -/
import Derived.Test.YtjblppbkhgihoaaGreatDoorM17
import Derived.Test.YtjblppbkhgihoaaGreatDoorM16
import Derived.Test.YtjblppbkhgihoaaGreatDoorM10
import Derived.Test.YtjblppbkhgihoaaGreatDoorM11
import Derived.Test.YtjblppbkhgihoaaGreatDoorM12
import Derived.Test.YtjblppbkhgihoaaGreatDoorM15
section
namespace Go.AL
open Go Go.RowKit
set_option maxRecDepth 4000
noncomputable abbrev ordZ (ps:List Pr):Nat→Nat→Bool:=ordX ps (exF ps [])
theorem num_inj {ps:List Pr} {p i q j:Nat} (hp:p<ps.length) (hi:i<ps[p].evs.length) (hq:q<ps.length) (hj:j<ps[q].evs.length) (h:off ps p+i=off ps q+j):p=q∧i=j:=by
 have h1:=evE_at hp hi
 rw[h,evE_at hq hj,Prod.mk.injEq] at h1
 omega
theorem filt_eq (t n:Nat):(List.range n).filter (fun i=>decide (i=t))=if t<n then [t] else []:=by
 induction n with
 | zero=>rfl
 | succ n ih =>
  rw[List.range_succ,List.filter_append,ih]
  by_cases e:n=t
  ·subst e
   rw[if_neg (by omega),if_pos (by omega),List.filter_cons_of_pos (by simp)];rfl
  ·rw[List.filter_cons_of_neg (by simpa using e)]
   by_cases h:t<n
   ·rw[if_pos h,if_pos (by omega)];rfl
   ·rw[if_neg h,if_neg (by omega)];rfl
theorem filt_proc {ps:List Pr} {P b:Nat→Bool} {t:Nat→Nat} (h:∀(p:Nat) (hp:p<ps.length) (i:Nat),i<ps[p].evs.length→P (off ps p+i)=(decide (i=t p) && b p)) (ht:∀(p:Nat) (hp:p<ps.length),b p=true→t p<ps[p].evs.length) :
  ∀k,k≤ps.length→(List.range (off ps k)).filter P=((List.range k).filter b).map fun p=>off ps p+t p
 | 0,_=>by simp [off]
 | k+1,hk=>by
  have hk':k<ps.length:=by omega
  have ih:=filt_proc h ht k (by omega)
  have hr:(List.range ps[k].evs.length).filter (P ∘ fun i=>off ps k+i)=if b k=true then [t k] else []:=by
   rw[List.filter_congr (p:=P ∘ fun i=>off ps k+i) (q:=fun i=>decide (i=t k) && b k) fun i hi=>h k hk' i (List.mem_range.1 hi)]
   cases hb:b k with
   | false=>simp
   | true =>
    have:=filt_eq (t k) ps[k].evs.length
    rw[if_pos (ht k hk' hb)] at this
    simpa using this
  rw[off_succ hk',List.range_add,List.filter_append,ih,List.filter_map,hr,List.range_succ,List.filter_append,List.map_append]
  congr 1
  cases hb:b k with
  | false=>rw[if_neg (by decide),List.filter_cons_of_neg (by rw[hb];decide)];rfl
  | true=>rw[if_pos rfl,List.filter_cons_of_pos hb];rfl
section
variable {ps:List Pr} (hv:validF ps=true)
include hv
theorem hb_at {p a q b:Nat} (hp:p<ps.length) (ha:a<ps[p].evs.length) (hq:q<ps.length) (hb:b<ps[q].evs.length) :
  ordZ ps (off ps p+a) (off ps q+b)=(!decide (off ps p+a=off ps q+b) && decide ((a:Int)+1≤cAt (ptF ps q b) p)):=by
 show ordX ps (exF ps []) _ _=_
 rw[← hb_ord hv (off_lt hq hb)]
 unfold hbX
 rw[evE_at hp ha,evE_at hq hb]
 have e:((b:Int)+1).toNat - 1=b:=by omega
 simp only[Int.toNat_natCast,e]
theorem nx_at {c:List Int} (hc:isF ps c=true) {p:Nat} (hp:p<ps.length) {i:Nat} (hi:i<ps[p].evs.length) :
  nxN (off ps ps.length) (fun i j=>ordZ ps j i) (setC ps c) (off ps p+i)=(decide (i=(cAt c p).toNat) && rdyF ps c p):=by
 obtain⟨hl,hr,_⟩:=isF_iff.1 hc
 have h0:=(inRange_iff hl).1 hr
 have hp0:=h0 p hp
 unfold nxN
 rw[setC_at hp hi]
 by_cases h1:(i:Int)+1≤cAt c p
 ·rw[decide_eq_true h1,decide_eq_false (show ¬i=(cAt c p).toNat by omega)];rfl
 rw[decide_eq_false h1,Bool.not_false,Bool.true_and]
 by_cases h2:i=(cAt c p).toNat
 ·rw[decide_eq_true h2,Bool.true_and]
  have hrd:=rdy_pt hv hc hp (by rw[nev_get hp];omega)
  rw[← h2] at hrd
  rw[Bool.eq_iff_iff,hrd]
  unfold subN
  rw[List.all_eq_true]
  constructor
  ·intro h q hq hqp
   apply Classical.byContradiction
   intro hlt
   have hqr:=(inRange_iff (isF_iff.1 (pt_is hv hp hi)).1).1 (isF_iff.1 (pt_is hv hp hi)).2.1 q hq
   have hq0:=h0 q hq
   obtain⟨a,ha⟩:∃a:Nat,cAt (ptF ps p i) q=(a:Int)+1:=⟨(cAt (ptF ps p i) q).toNat - 1,by omega⟩
   have hal:a<ps[q].evs.length:=by omega
   have h3:=h (off ps q+a) (List.mem_range.2 (off_lt hq hal))
   have hne:¬off ps q+a=off ps p+i:=fun e=>hqp (num_inj hq hal hp hi e).1
   dsimp only at h3
   rw[hb_at hv hq hal hp hi,decide_eq_false hne,decide_eq_true (show (a:Int)+1≤cAt (ptF ps p i) q by omega),setC_at hq hal,decide_eq_false (show ¬(a:Int)+1≤cAt c q by omega)] at h3
   cases h3
  ·intro h j hj
   obtain⟨q,a,hq,ha,rfl⟩:=num_form ps.length (Nat.le_refl _) (List.mem_range.1 hj)
   dsimp only
   rw[hb_at hv hq ha hp hi,setC_at hq ha]
   by_cases hne:off ps q+a=off ps p+i
   ·rw[decide_eq_true hne];rfl
   by_cases h3:(a:Int)+1≤cAt (ptF ps p i) q
   ·have h4:(a:Int)+1≤cAt c q:=by
     by_cases e:q=p
     ·subst e
      have:=pt_self hv hp (i:=i) (by rw[nev_get hp];exact hi)
      have hai:¬a=i:=fun e=>hne (by rw[e])
      omega
     ·have:=h q hq e;omega
    rw[decide_eq_true h4,Bool.or_true]
   ·rw[decide_eq_false h3,Bool.and_false];rfl
 ·rw[decide_eq_false h2,Bool.false_and]
  unfold subN
  rw[List.all_eq_false]
  have ha:(cAt c p).toNat<ps[p].evs.length:=by omega
  refine⟨off ps p+(cAt c p).toNat,List.mem_range.2 (off_lt hp ha),?_⟩
  have hs:=pt_self hv hp (i:=i) (by rw[nev_get hp];exact hi)
  dsimp only
  rw[hb_at hv hp ha hp hi,setC_at hp ha,decide_eq_false (show ¬off ps p+(cAt c p).toNat=off ps p+i by omega),decide_eq_true (show ((cAt c p).toNat:Int)+1≤cAt (ptF ps p i) p by omega),decide_eq_false (show ¬((cAt c p).toNat:Int)+1≤cAt c p by omega)]
  decide
theorem nx_list {c:List Int} (hc:isF ps c=true):(List.range (off ps ps.length)).filter (nxN (off ps ps.length) (fun i j=>ordZ ps j i) (setC ps c))=(enF ps c ps.length).map fun p=>off ps p+(cAt c p).toNat:=by
 obtain⟨hl,hr,_⟩:=isF_iff.1 hc
 refine filt_proc (fun p hp i hi=>nx_at hv hc hp hi) (fun p hp hb => ?_) _ (Nat.le_refl _)
 have h0:=(inRange_iff hl).1 hr p hp
 unfold rdyF at hb
 have:=(of_decide_eq_true hb).1
 rw[nev_get hp] at this
 omega
omit hv in
theorem set_step {c:List Int} (hl:c.length=ps.length) {p:Nat} (hp:p<ps.length) {i:Nat} (hi:i<ps[p].evs.length) (hic:cAt c p=i) {j:Nat} (hj:j<off ps ps.length):setC ps (stpC c p) j=(setC ps c j || decide (j=off ps p+i)):=by
 obtain⟨q,a,hq,ha,rfl⟩:=num_form ps.length (Nat.le_refl _) hj
 unfold stpC
 rw[setC_at hq ha,setC_at hq ha,setc_cAt (by omega),hic]
 by_cases e:p=q
 ·subst e
  rw[if_pos rfl,Bool.eq_iff_iff,decide_eq_true_iff,Bool.or_eq_true,decide_eq_true_iff,decide_eq_true_iff,hic]
  omega
 ·have:¬off ps q+a=off ps p+i:=fun h=>e (num_inj hq ha hp hi h).1.symm
  rw[if_neg e,decide_eq_false this,Bool.or_false]
omit hv in
end
def bloR (n:Nat) (F:Nat→Nat→Bool) (j:Nat):List AV:=((List.range n).filter fun i=>F i j).map fun i:Nat=>ai i
def bloL (n:Nat) (F:Nat→Nat→Bool):List AV:=(List.range n).map fun j => .sl 1 (bloR n F j)
theorem bloL_len (n:Nat) (F:Nat→Nat→Bool):(bloL n F).length=n:=by simp [bloL]
theorem bloL_get {n:Nat} {F:Nat→Nat→Bool} {j:Nat} (h:j<n):(bloL n F).getD j .any = .sl 1 (bloR n F j):=map_range_getD h _
def xsV (n:Nat) (B:List AV) (f:Nat→Bool):AV:=.rp 3 [.agg [ai n,.sl 1 B,.sl 1 (bRow n f)]] 0 0
def xsP (n:Nat) (B:List AV) (bd cap:Nat):AV:=.rp 3 [.agg [ai n,.sl 1 B,.ls bd 1 0 n cap]] 0 0
theorem xsP_vw (n:Nat) (B:List AV) (bd cap:Nat) (f:Nat→Bool) (L:AHeap) (h:lk L bd=some (.row 4 1 (bRow n f) cap)):Vw L (xsP n B bd cap) (xsV n B f) :=
 .rp rfl (Vws.cons (.mkAgg (Vws.cons (.refl _) (Vws.cons (.refl _) (Vws.cons (Vw.ofLs h bRow_len.symm) .nil)))) .nil).2
theorem ext_free1 (n:Nat) (B:List AV) (f:Nat→Bool) (j:Nat) (hj:j<n):PC Proofs.Tryz.prog 119 [ai j,.rp 1 [xsV n B f] 0 0] (ab (!f j)):=by
 have hg:=bRow_get (f:=f) hj
 have hl:=bRow_len (n:=n) (f:=f)
 unfold xsV
 generalize bRow n f=W at *
 generalize f j=x at *
 refine PC.enter 12 [.tmp 3] [] Proofs.Tryz.func119 rfl rfl rfl rfl rfl (by simp) (AWp.of ?_);simp only[go_sem]
 refine W2 hg hl ?_
 refine ret_eq ?_;simp only[go_sem]
theorem free_eq (n:Nat) (F:Nat→Nat→Bool) (f:Nat→Bool) (i:Nat):(!f i && !(((List.range n).filter fun j=>F j i).any fun j => !f j))=nxN n (fun i j=>F j i) f i:=by
 unfold nxN subN
 congr 1
 rw[Bool.eq_iff_iff,Bool.not_eq_true',List.any_eq_false,List.all_eq_true]
 constructor
 ·intro h j hj
  dsimp only
  have:=h j
  cases h1:F j i with
  | false=>rfl
  | true =>
   have:=h j (List.mem_filter.2 ⟨hj,h1⟩)
   cases h2:f j with
   | true=>rfl
   | false=>rw[h2] at this;exact absurd rfl this
 ·intro h j hj
  obtain⟨h1,h2⟩:=List.mem_filter.1 hj
  have:=h j h1
  dsimp only at this
  rw[h2] at this
  cases h3:f j with
  | true=>decide
  | false=>rw[h3] at this;cases this
theorem ext_free (n:Nat) (hn:n≤512) (F:Nat→Nat→Bool) (f:Nat→Bool) (i:Nat) (hi:i<n):PC Proofs.Tryz.prog 94 [xsV n (bloL n F) f,ai i] (ab (nxN n (fun i j=>F j i) f i)):=by
 have hg:=bRow_get (f:=f) hi
 have hl:=bRow_len (n:=n) (f:=f)
 have hbg:=bloL_get (F:=F) hi
 have hbl:=bloL_len n F
 have hcf:=ints_containsFunc (((List.range n).filter fun j=>F j i).map fun j:Nat=>(j:Int)) (by
  rw[List.length_map]
  have:=List.length_filter_le (fun j=>F j i) (List.range n)
  rw[List.length_range] at this
  omega) (.clo 119 [.rp 1 [xsV n (bloL n F) f] 0 0]) rfl (fun j => !f j.toNat) (fun x hx=>by
   obtain⟨j,hj,rfl⟩:=List.mem_map.1 hx
   exact(ext_free1 n (bloL n F) f j (List.mem_range.1 (List.mem_filter.1 hj).1)).clo)
 have e1:((((List.range n).filter fun j=>F j i).map fun j:Nat=>(j:Int)).any fun j => !f j.toNat)=(((List.range n).filter fun j=>F j i).any fun j => !f j):=by
  rw[List.any_map];rfl
 have e2:aInts (((List.range n).filter fun j=>F j i).map fun j:Nat=>(j:Int)) = .sl 1 (bloR n F i):=by
  show AV.sl 1 _=_
  rw[List.map_map];rfl
 rw[e1,e2] at hcf
 rw[← free_eq]
 unfold xsV at *
 generalize bRow n f=W at *
 generalize bloL n F=B at *
 generalize bloR n F i=C at *
 generalize (((List.range n).filter fun j=>F j i).any fun j => !f j)=y at *
 generalize f i=x at *
 refine PC.enter 25 [.tmp 4] [2] Proofs.Tryz.func94 rfl rfl rfl rfl rfl (by simp) (AWp.of ?_);simp only[go_sem]
 refine W4 hg hl hbg hbl ?_
 refine Sd ?_
 refine GCall.use (ab y) (fun _=>⟨At,(hcf).val.use ⟨rfl,rfl⟩⟩) ?_;simp only[go_sem,hg,hl,hbg,hbl]
 refine Sd ?_
 refine Wk ?_
 refine ret_eq ?_;simp only[go_sem]
theorem ext_next (n:Nat) (hn:n≤512) (F:Nat→Nat→Bool) (f:Nat→Bool) (a k:Nat) (ha:a≤n) (hk:k≤((List.range n).filter (nxN n (fun i j=>F j i) f)).length) (hj:(List.range a).filter (nxN n (fun i j=>F j i) f)=((List.range n).filter (nxN n (fun i j=>F j i) f)).take k) :
  PC Proofs.Tryz.prog 72 [xsV n (bloL n F) f,ai a] (ai (match ((List.range n).filter (nxN n (fun i j=>F j i) f))[k]? with|some x=>(x:Int)|none => -1)):=by
 have hfr:=fun i hi=>ext_free n hn F f i hi
 have hst:xsV n (bloL n F) f = .rp 3 [.agg [ai n,.sl 1 (bloL n F),.sl 1 (bRow n f)]] 0 0:=rfl
 rw[hst] at hfr ⊢
 generalize nxN n (fun i j=>F j i) f=P at *
 refine PC.enter 19 [.tmp 4] [] Proofs.Tryz.func72 rfl rfl rfl rfl rfl (by simp) (AWp.of ?_);simp only[go_sem]
 refine Wk ?_
 refine AWp.block (AWp.loopN [5] [0] (fun m vs L=>L=[]∧∃i,m=n - i∧a≤i∧i≤n∧vs=[ai (i:Nat)]∧∀x,a≤x→x<i→P x=false) (n - a) ⟨rfl,a,rfl,Nat.le_refl _,ha,rfl,fun x h1 h2=>by omega⟩ ?_)
 rintro m vs L - ⟨rfl,i,rfl,hai,hin,rfl,hI⟩
 by_cases h:i<n
 ·have hi1:(i:Int)<(n:Int):=by omega
  have hfi:=hfr i h
  cases hp:P i with
  | true =>
   rw[hp] at hfi
   have hkl:k<((List.range n).filter P).length:=by
    apply Classical.byContradiction
    intro hx
    have he:k=((List.range n).filter P).length:=by omega
    rw[he,List.take_length] at hj
    have:i ∈ (List.range a).filter P:=by rw[hj];exact List.mem_filter.2 ⟨List.mem_range.2 h,hp⟩
    have:=List.mem_range.1 (List.mem_filter.1 this).1
    omega
   obtain⟨x,hx,hxn,hfx,hjx,hno,_⟩:=filter_step hkl ha hj
   have hxi:x=i:=by
    apply Classical.byContradiction
    intro hne
    rcases Nat.lt_or_ge x i with h1|h1
    ·rw[hI x hjx h1] at hfx;cases hfx
    ·have:=hno i hai (by omega)
     rw[hp] at this;cases this
   rw[hx,hxi]
   simp only[go_sem]
   refine W1 hi1 ?_
   refine Sd ?_
   refine(hfi).val.use ?_;simp only[go_sem]
   refine Wk ?_
   refine ret_eq ?_;simp only[go_sem]
  | false =>
   rw[hp] at hfi
   simp only[go_sem]
   refine W1 hi1 ?_
   refine Sd ?_
   refine(hfi).val.use ?_;simp only[go_sem]
   refine Wk ?_
   refine⟨_,List.Sublist.refl _,n - (i+1),by omega,rfl,i+1,rfl,by omega,by omega,rfl,fun x h1 h2 => ?_⟩
   by_cases e:x=i
   ·subst e;exact hp
   ·exact hI x h1 (by omega)
 ·have hin2:i=n:=by omega
  subst hin2
  have hi1:¬(i:Int)<(i:Int):=by omega
  have hnone:((List.range i).filter P)[k]?=none:=by
   rw[List.getElem?_eq_none_iff]
   apply Classical.byContradiction
   intro hx
   obtain⟨x,hx2,hxn,hfx,hjx,hno,_⟩:=filter_step (show k<((List.range i).filter P).length by omega) ha hj
   rw[hI x hjx hxn] at hfx;cases hfx
  rw[hnone]
  simp only[go_sem]
  refine W1 hi1 ?_
  refine ret_eq ?_;simp only[go_sem]
def bitI (b:Bool):Int:=if b then 1 else 0
def txN (n:Nat) (f:Nat→Bool):ByteArray:=bytesS ((List.range n).map fun i=>bitI (f i))
theorem txN_congr {n:Nat} {f g:Nat→Bool} (h:∀i,i<n→f i=g i):txN n f=txN n g:=by
 unfold txN
 rw[List.map_congr_left fun i hi=>by rw[h i (List.mem_range.1 hi)]]
theorem txN_data (n:Nat) (f:Nat→Bool):(txN n f).data.toList=(List.range n).map fun i=>if f i then 1 else 0:=by
 unfold txN
 rw[bytesS_eq]
 simp only[List.map_map]
 refine List.map_congr_left fun i _ => ?_
 show UInt8.ofNat (bitI (f i)).toNat=_
 unfold bitI
 cases f i <;> rfl
theorem txN_size (n:Nat) (f:Nat→Bool):(txN n f).size=n:=by
 have:=congrArg List.length (txN_data n f)
 simpa using this
theorem txN_get {n:Nat} {f:Nat→Bool} {i:Nat} (hi:i<n):(((txN n f).get! i).toNat:Int)=bitI (f i):=by
 have h:=txN_data n f
 have h2:(txN n f).data[i]! = if f i then 1 else 0:=by
  have h3:(txN n f).data.toList[i]?=some (if f i then 1 else 0):=by rw[h,List.getElem?_map,List.getElem?_range hi];rfl
  rw[Array.getElem?_toList] at h3
  rw[getElem!_def,h3]
 show (((txN n f).data[i]!).toNat:Int)=_
 rw[h2]
 unfold bitI
 cases f i <;> rfl
theorem txN_inj {n:Nat} {f g:Nat→Bool} (h:txN n f=txN n g):∀i,i<n→f i=g i:=fun i hi=>by
 have h1:=txN_get (f:=f) hi
 rw[h,txN_get hi] at h1
 unfold bitI at h1
 cases hf:f i <;> cases hg:g i <;> rw[hf,hg] at h1 <;> first|rfl|cases h1
def bitR (n:Nat) (f:Nat→Bool) (k:Nat):List AV:=(List.range n).map fun i=>a8 (if i<k then bitI (f i) else 0)
theorem bitR_len (n:Nat) (f:Nat→Bool) (k:Nat):(bitR n f k).length=n:=by simp [bitR]
theorem bitR_zero (n:Nat) (f:Nat→Bool):bitR n f 0=List.replicate n (a8 0):=by
 unfold bitR
 rw[List.eq_replicate_iff]
 refine⟨by simp,fun b hb => ?_⟩
 obtain⟨k,_,rfl⟩:=List.mem_map.1 hb
 rw[if_neg (by omega)]
theorem bitR_full (n:Nat) (f:Nat→Bool):bitR n f n=((List.range n).map fun i=>bitI (f i)).map a8:=by
 unfold bitR
 rw[List.map_map]
 exact List.map_congr_left fun i hi=>by rw[if_pos (List.mem_range.1 hi)];rfl
theorem bitR_set {n:Nat} {f:Nat→Bool} {k:Nat} (hf:f k=true):(bitR n f k).set k (a8 1)=bitR n f (k+1):=by
 unfold bitR
 rw[map_range_set]
 refine List.map_congr_left fun i _ => ?_
 by_cases e:i=k
 ·rw[if_pos e,if_pos (by omega),e,hf];rfl
 ·rw[if_neg e]
  by_cases h:i<k
  ·rw[if_pos h,if_pos (by omega)]
  ·rw[if_neg h,if_neg (by omega)]
theorem bitR_skip {n:Nat} {f:Nat→Bool} {k:Nat} (hf:f k=false):bitR n f (k+1)=bitR n f k:=by
 unfold bitR
 refine List.map_congr_left fun i _ => ?_
 by_cases e:i=k
 ·rw[if_pos (by omega),if_neg (by omega),e,hf];rfl
 ·by_cases h:i<k
  ·rw[if_pos h,if_pos (by omega)]
  ·rw[if_neg h,if_neg (by omega)]
theorem ext_key (n:Nat) (hn:n≤512) (B:List AV) (f:Nat→Bool):PC Proofs.Tryz.prog 50 [xsV n B f] (.v (.string (txN n f))):=by
 have hl:=bRow_len (n:=n) (f:=f)
 have hg:=fun i (hi:i<n)=>bRow_get (f:=f) hi
 have hz:=bitR_zero n f
 have htx:txN n f=bytesS ((List.range n).map fun i=>bitI (f i)):=rfl
 unfold xsV
 rw[htx]
 generalize bRow n f=W at *
 refine PC.enter 28 [.tmp 2] [] Proofs.Tryz.func50 rfl rfl rfl rfl rfl (by simp) (AWp.of ?_);simp only[go_sem]
 refine Wk ?_
 refine Sd ?_
 intro b3
 refine W1 hl ?_
 change AWp _ _ _ _ [(b3,.row 5 1 (List.replicate n (a8 0)) n)]
 rw[← hz]
 refine AWp.range' n [] [3,14,15] (fun k vs L=>vs=[]∧L=[(b3,.row 5 1 (bitR n f k) n)]) (by omega) rfl rfl rfl ⟨rfl,rfl⟩ ?_ ?_
 ·rintro k vs L hk - ⟨rfl,rfl⟩
  have hgk:=hg k hk
  have hbl:=bitR_len n f k
  cases hf:f k with
  | true =>
   have hs:=bitR_set (n:=n) hf
   rw[hf] at hgk
   have hyk:(bitR n f k).getD k .any=a8 (if k<k then bitI (f k) else 0):=map_range_getD hk _
   rw[if_neg (Nat.lt_irrefl k)] at hyk
   rw[← hs]
   generalize bitR n f k=Y at *
   simp only[go_sem]
   refine W3 hgk hl hbl ?_
   refine Sd ?_
   rw[hyk]
   exact⟨_,List.Sublist.refl _,rfl⟩
  | false =>
   rw[hf] at hgk
   rw[bitR_skip hf]
   simp only[go_sem]
   refine W3 hgk hl hbl ?_
   exact⟨_,List.Sublist.refl _,rfl⟩
 ·rintro vs L - ⟨rfl,rfl⟩
  have hbl:=bitR_len n f n
  rw[bitR_full] at hbl ⊢
  have hby:=bytesOf_map ((List.range n).map fun i=>bitI (f i))
  have htk:(((List.range n).map fun i=>bitI (f i)).map a8).take n=((List.range n).map fun i=>bitI (f i)).map a8:=List.take_of_length_le (by omega)
  simp only[go_sem]
  refine W3 htk hby hbl ?_
  refine ret_eq ?_;simp only[go_sem]
theorem ext_load (n:Nat) (hn:n≤512) (B:List AV) (f g:Nat→Bool) (bd cap:Nat):MCalls Proofs.Tryz.prog 71 [xsP n B bd cap,.v (.string (txN n g))] [(bd,.row 4 1 (bRow n f) cap)] fun r L=>r = .tup []∧L=[(bd,.row 4 1 (bRow n g) cap)]:=by
 have hsz:=txN_size n g
 have hgt:=fun i (hi:i<n)=>txN_get (f:=g) hi
 have h0:bRow n f=bRow n (fun i=>if i<0 then g i else f i):=bRow_congr fun i _=>by rw[if_neg (by omega)]
 unfold xsP
 rw[h0]
 refine MCalls.enter' 24 [] [] Proofs.Tryz.func71 rfl rfl rfl rfl rfl (by simp) (AWp.of ?_);simp only[go_sem]
 refine Wk ?_
 refine AWp.range' n [] [0,1,9] (fun k vs L=>vs=[]∧L=[(bd,.row 4 1 (bRow n (fun i=>if i<k then g i else f i)) cap)]) (by omega) rfl rfl rfl ⟨rfl,rfl⟩ ?_ ?_
 ·rintro k vs L hk - ⟨rfl,rfl⟩
  have hgk:=hgt k hk
  have hszi:((txN n g).size:Int)=n:=by omega
  have hbl:=bRow_len (n:=n) (f:=fun i=>if i<k then g i else f i)
  have hs:=bRow_set (n:=n) (j:=k) (f:=fun i=>if i<k then g i else f i) (g:=fun i=>if i<k+1 then g i else f i) (fun i hi=>by
   by_cases h:i<k
   ·rw[if_pos h,if_pos (by omega)]
   ·rw[if_neg h,if_neg (by omega)])
  rw[if_pos (show k<k+1 by omega)] at hs
  have hd:decide (bitI (g k)=1)=g k:=by unfold bitI;cases g k <;> rfl
  have hw:IntKind.u8.wrap (bitI (g k))=bitI (g k):=by unfold bitI;cases g k <;> rfl
  rw[hs]
  have hkt:((k:Nat):Int).toNat=k:=rfl
  have hyk:=bRow_get (n:=n) (f:=fun i=>if i<k then g i else f i) hk
  rw[if_neg (Nat.lt_irrefl k)] at hyk
  generalize f k=y0 at *
  generalize bRow n (fun i=>if i<k then g i else f i)=Y at *
  generalize bitI (g k)=z at *
  generalize txN n g=s at *
  generalize g k=x at *
  simp only[go_sem]
  refine Wk ?_
  repeat(first|(with_reducible refine AWp.seq ?_)|(with_reducible refine AWp.block ?_))
  refine AWp.readW mixed [0,1,2,3,4,5,6,7,8,9] 10 (by kernel_rfl) ?_;simp only[go_sem,hgk,hszi,hsz,hbl,hd,hw,hkt,hyk]
  refine Sd ?_
  exact⟨_,List.Sublist.refl _,rfl⟩
 ·rintro vs L - ⟨rfl,rfl⟩
  have e:bRow n (fun i=>if i<n then g i else f i)=bRow n g:=bRow_congr fun i hi=>by rw[if_pos hi]
  rw[e]
  simp only[go_sem]
  refine Wk ?_
  refine ret_sub [(bd,.row 4 1 (bRow n g) cap)] (List.Sublist.refl _) ?_
  simp only[go_sem]
def bloK (n:Nat) (F:Nat→Nat→Bool) (i k:Nat) (j:Nat):List AV:=(((List.range i).filter fun i=>F i j) ++ if j ∈ ((List.range n).filter (F i)).take k then [i] else []).map fun i:Nat=>ai i
theorem bloK_zero (n:Nat) (F:Nat→Nat→Bool) (i j:Nat):bloK n F i 0 j=((List.range i).filter fun i=>F i j).map fun i:Nat=>ai i:=by
 unfold bloK;rw[List.take_zero];simp
theorem bloK_next {n:Nat} {F:Nat→Nat→Bool} {i k j:Nat} (hj:j<n) (hk:((List.range n).filter (F i)).length≤k):bloK n F i k j=bloK n F (i+1) 0 j:=by
 rw[bloK_zero]
 unfold bloK
 rw[List.take_of_length_le hk,List.range_succ,List.filter_append]
 congr 2
 by_cases h:F i j=true
 ·rw[if_pos (List.mem_filter.2 ⟨List.mem_range.2 hj,h⟩),List.filter_cons_of_pos (p:=fun i=>F i j) h];rfl
 ·rw[if_neg (fun hm=>h (List.mem_filter.1 hm).2),List.filter_cons_of_neg (p:=fun i=>F i j) h];rfl
theorem bloK_same {n:Nat} {F:Nat→Nat→Bool} {i k j:Nat} (hk:k<((List.range n).filter (F i)).length) (hj:j ≠ ((List.range n).filter (F i))[k]):bloK n F i (k+1) j=bloK n F i k j:=by
 unfold bloK
 congr 2
 have:=take_mem hk j
 by_cases h:j ∈ ((List.range n).filter (F i)).take k
 ·rw[if_pos h,if_pos (this.2 (.inl h))]
 ·rw[if_neg h,if_neg (fun hm=>(this.1 hm).elim h hj)]
theorem bloK_more {n:Nat} {F:Nat→Nat→Bool} {i k:Nat} (hk:k<((List.range n).filter (F i)).length):bloK n F i (k+1) ((List.range n).filter (F i))[k]=bloK n F i k ((List.range n).filter (F i))[k] ++ [ai i]:=by
 unfold bloK
 have hnd:((List.range n).filter (F i)).Nodup:=List.nodup_range.filter _
 have hn:((List.range n).filter (F i))[k] ∉ ((List.range n).filter (F i)).take k:=fun hm=>by
  obtain⟨m,hm1,hm2⟩:=List.getElem_of_mem hm
  rw[List.length_take] at hm1
  rw[List.getElem_take] at hm2
  exact List.pairwise_iff_getElem.1 hnd m k (by omega) hk (by omega) hm2
 rw[if_neg hn,if_pos ((take_mem hk _).2 (.inr rfl)),List.append_nil,List.map_append]
 rfl
theorem fam_none {tO tI:TypeId} {k n:Nat} (b cap:Nat):FamS tO tI k n (fun _=>[]) (.ls b 1 0 n cap) [(b,.row tO 1 (List.replicate n anil) cap)]:=by
 refine⟨[(b,.row tO 1 (List.replicate n anil) cap)],fun _=>anil,fun _=>[],by rw[fam_nil,List.append_nil],?_,fun q _ => .nil⟩
 have e:(List.range n).map (fun _=>anil)=List.replicate n anil:=by
  rw[List.eq_replicate_iff]
  refine⟨by simp,fun b hb => ?_⟩
  obtain⟨_,_,rfl⟩:=List.mem_map.1 hb
  rfl
 rw[e]
 have:=AppSt.row (t:=tO) (k:=1) b (List.replicate n anil) cap
 rwa [List.length_replicate] at this
theorem FamS.vw {tO tI:TypeId} {k n:Nat} {Y:Nat→List AV} {v:AV} {L:AHeap} (h:FamS tO tI k n Y v L) (hn:(L.map (·.1)).Nodup):Vw L v (.sl 1 ((List.range n).map fun q => .sl k (Y q))):=by
 obtain⟨Lv,V,Ls,h1,h2,h3⟩:=h
 rcases h2.inv with ⟨e1,e2,e3⟩|⟨bo,cap,e2,e3⟩
 ·have h0:n=0:=by have:=congrArg List.length e1;simpa using this
  subst h0
  rw[e2];exact .nil 1
 ·rw[e2]
  refine Vw.ofLs' (t:=tO) (cap:=cap) (lk_of_mem hn (h1.mem_iff.2 (List.mem_append_left _ (by rw[e3];exact List.mem_singleton_self _)))) rfl ⟨by simp,fun i x y hx hy => ?_⟩
  by_cases hi:i<n
  ·rw[List.getElem?_map,List.getElem?_range hi] at hx hy
   cases hx;cases hy
   show Vw L (V i) (.sl k (Y i))
   rcases (h3 i hi).inv with ⟨e4,e5,_⟩|⟨b,c,e5,e6⟩
   ·rw[e4,e5];exact .nil k
   ·rw[e5]
    refine Vw.ofLs (t:=tI) (cap:=c) (lk_of_mem hn (h1.mem_iff.2 (List.mem_append_right _ ?_))) rfl
    unfold famL
    exact List.mem_flatMap.2 ⟨i,List.mem_range.2 hi,by rw[e6];exact List.mem_singleton_self _⟩
  ·have:(List.range n)[i]?=none:=by simp;omega
   rw[List.getElem?_map,this] at hx;cases hx
set_option maxHeartbeats 2000000 in
theorem ext_open (n:Nat) (hn:n≤512) (F:Nat→Nat→Bool):MCalls Proofs.Tryz.prog 49 [aRelN n F] [] fun r L=>∃bd,r=xsP n (bloL n F) bd n∧L=[(bd,.row 4 1 (bRow n fun _=>false) n)]:=by
 have hlen:((List.range n).map fun i=>aNs n (F i)).length=n:=by simp
 have hgi:=fun i (hi:i<n)=>map_range_getD hi (fun i=>aNs n (F i))
 have hm:=fun i=>bits_Members n hn (F i)
 rw[aRelN_eq]
 generalize (List.range n).map (fun i=>aNs n (F i))=R at *
 simp only[aNs_wd,filR_eq] at *
 refine MCalls.enter' 61 [.tmp 2] [1,5,22,55] Proofs.Tryz.func49 rfl rfl rfl rfl rfl (by simp) (AWp.of ?_);simp only[go_sem]
 refine W1 hlen ?_
 refine AWp.cut [1,3] (fun vs L=>∃bb bd,¬bb=bd∧L.Perm [(bb,.row 47 1 (List.replicate n anil) n),(bd,.row 4 1 (List.replicate n (ab false)) n)]∧vs=[.rp 1 [.agg [.sl 2 R]] 0 0,.rp 3 [.agg [ai n,.ls bb 1 0 n n,.ls bd 1 0 n n]] 0 0]) ?_ ?_
 ·repeat(first|(with_reducible refine AWp.seq ?_)|(with_reducible refine AWp.block ?_))
  refine AWp.mix mixed [0,1,2,3,4,5,7,8,9] (.step 6 (.step 10 (.step 11 (.step 12 (.step 13 .done .done) .done) .done) .done) (.step 10 (.step 6 (.step 11 (.step 12 (.step 13 .done .done) .done) .done) .done) .done)) (by kernel_rfl) ?_;simp only[go_sem,hlen]
  refine Sd ?_
  repeat' (first|(with_reducible refine And.intro ?_ ?_)|(with_reducible intro _))
  all_goals first|omega|exact⟨_,List.Sublist.refl _,_,_,by omega,.refl _,rfl⟩|exact⟨_,List.Sublist.refl _,_,_,by omega,List.Perm.swap _ _ _,rfl⟩
 ·rintro vs L - ⟨bb,bd,nbd,hL,rfl⟩
  have hML:∀i,((List.range n).filter (F i)).length≤n:=fun i=>Nat.le_trans (List.length_filter_le _ _) (by rw[List.length_range];exact Nat.le_refl _)
  have hMm:∀i j,j ∈ (List.range n).filter (F i)→j<n:=fun i j hj=>List.mem_range.1 (List.mem_filter.1 hj).1
  have nbd':¬bd=bb:=fun e=>nbd e.symm
  simp only[go_sem]
  refine W1 hlen ?_
  refine AWp.range' n [] [3,24,25] (fun i vs L=>vs=[]∧∃Lf,L.Perm (Lf ++ [(bd,.row 4 1 (List.replicate n (ab false)) n)])∧FamS 47 3 1 n (bloK n F i 0) (.ls bb 1 0 n n) Lf) (by omega) rfl rfl rfl ⟨rfl,_,hL,(fam_none bb n).congr fun q _=>by rw[bloK_zero];rfl⟩ ?_ ?_
  ·rintro i vs L hi - ⟨rfl,Lf,hL,hF⟩
   have hgk:=hgi i hi
   have hmi:=hm i
   have hlm:(((List.range n).filter (F i)).map fun j:Nat=>ai (j:Int)).length=((List.range n).filter (F i)).length:=List.length_map _
   have hMi:=hML i
   simp only[go_sem]
   refine W2 hgk hlen ?_
   intros
   refine W2 hgk hlen ?_
   refine Sd ?_
   refine(hmi).val.use ?_;simp only[go_sem]
   refine W1 hlm ?_
   refine AWp.range' ((List.range n).filter (F i)).length [] [3,4,24,25,26,36,37] (fun k vs L=>vs=[]∧∃Lf,L.Perm (Lf ++ [(bd,.row 4 1 (List.replicate n (ab false)) n)])∧FamS 47 3 1 n (bloK n F i k) (.ls bb 1 0 n n) Lf) (by omega) rfl rfl (by first|rfl|exact congrArg (fun z:Nat=>ai (z:Int)) hlm) ⟨rfl,Lf,hL,hF⟩ ?_ ?_
   ·rintro k vs L hk - ⟨rfl,Lf,hL,hF⟩
    have hgx:(((List.range n).filter (F i)).map fun j:Nat=>ai (j:Int)).getD k .any=ai ((((List.range n).filter (F i))[k]:Nat):Int):=getD_map (f:=fun j:Nat=>ai (j:Int)) hk
    have hxn:=hMm i _ (List.getElem_mem hk)
    have hsame:=fun j hj=>bloK_same (F:=F) hk (j:=j) hj
    have hmore:=bloK_more hk
    generalize ((List.range n).filter (F i))[k]=x at *
    obtain⟨bo,cap,V,Ls,ev,hP,hA,hcl⟩:=hF.open hxn
    cases ev
    have hyl:(bloK n F i k x).length≤n+1:=by
     unfold bloK
     rw[List.length_map,List.length_append]
     have:=List.length_filter_le (fun i=>F i x) (List.range i)
     rw[List.length_range] at this
     split <;> simp <;> omega
    have hlr:((List.range n).map V).length=n:=by simp
    refine AWp.perm (L':=(bb,.row 47 1 ((List.range n).map V) n) :: (Ls x ++ (famR n x Ls ++ [(bd,.row 4 1 (List.replicate n (ab false)) n)]))) (hL.trans ((hP.append_right _).trans (by rw[List.cons_append,List.append_assoc]))) (AWp.nodup fun hnd => ?_)
    have n3:=nd1 hnd
    generalize bloK n F i (k+1)=Y' at *
    generalize bloK n F i k=Y at *
    rcases hA.inv with ⟨e1,e2,e3⟩|⟨bi,cp,e2,e3⟩
    ·have hgd:((List.range n).map V).getD x .any=anil:=by rw[map_range_getD hxn,e2]
     rw[e3]
     simp only[go_sem,List.nil_append]
     refine W1 hgx ?_
     repeat(first|(with_reducible refine AWp.seq ?_)|(with_reducible refine AWp.block ?_))
     refine AWp.mix mixed [0,1,2,3,4,5,6,7,8,9,10,12] (.step 11 (.step 13 (.step 14 (.step 15 (.step 16 .done .done) .done) .done) .done) (.step 13 (.step 11 (.step 14 (.step 15 (.step 16 .done .done) .done) .done) .done) .done)) (by kernel_rfl) ?_;simp only[go_sem,hgx,hgd,hlr]
     refine Sd ?_
     intro b' cap'
     intros
     have nb:¬bb=b':=by omega
     simp only[go_sem,nb,hgd,hlr]
     refine Sd ?_
     refine⟨_,List.Sublist.refl _,_,?_,hcl Y' (.ls b' 1 0 1 cap') [(b',.row 3 1 [ai i] cap')] _ hsame (by rw[hmore,e1];exact .row _ [_] _) (.refl _)⟩
     exact(List.Perm.swap _ _ _).trans (by rw[List.cons_append,List.append_assoc];exact .refl _)
    ·have hgd:((List.range n).map V).getD x .any = .ls bi 1 0 (Y x).length cp:=by rw[map_range_getD hxn,e2]
     rw[e3] at n3 ⊢
     obtain⟨n4,n5⟩:=n3 (bi,_) (List.mem_append_left _ (List.mem_singleton_self _))
     simp only[go_sem,List.cons_append,List.nil_append]
     refine W1 hgx ?_
     repeat(first|(with_reducible refine AWp.seq ?_)|(with_reducible refine AWp.block ?_))
     refine AWp.mix mixed [0,1,2,3,4,5,6,7,8,9,10,12] (.step 11 (.step 13 (.step 14 (.step 15 (.step 16 .done .done) .done) .done) .done) (.step 13 (.step 11 (.step 14 (.step 15 (.step 16 .done .done) .done) .done) .done) .done)) (by kernel_rfl) ?_;simp only[go_sem,hgx,hgd,hlr,n4,n5]
     refine Sd ?_
     intro b' cap'
     intros
     have nb:¬bb=b':=by first|omega|assumption
     simp only[go_sem,nb,hgd,hlr,n4,n5]
     refine Sd ?_
     refine⟨_,List.Sublist.refl _,_,?_,hcl Y' (.ls b' 1 0 ((Y x).length+1) cap') [(b',.row 3 1 (Y x ++ [ai i]) cap')] _ hsame (by rw[hmore];exact AppSt.snoc _ _ _ rfl) (.refl _)⟩
     exact(List.Perm.swap _ _ _).trans (by rw[List.cons_append,List.append_assoc];exact .refl _)
   ·rintro vs L - ⟨rfl,Lf,hL,hF⟩
    simp only[go_sem]
    refine W1 hlen ?_
    exact⟨_,List.Sublist.refl _,Lf,hL,hF.congr fun q hq=>(bloK_next hq (Nat.le_refl _)).symm⟩
  ·rintro vs L - ⟨rfl,Lf,hL,hF⟩
   have hF2:FamS 47 3 1 n (bloR n F) (.ls bb 1 0 n n) Lf:=hF.congr fun q _=>(bloK_zero n F n q).symm
   refine AWp.perm hL (AWp.nodup fun hnd => ?_)
   have hnd':(Lf.map (·.1)).Nodup:=by
    rw[List.map_append] at hnd
    exact(List.nodup_append.1 hnd).1
   have hvw:=hF2.vw hnd'
   change Vw Lf _ (.sl 1 (bloL n F)) at hvw
   have hbl:bRow n (fun _=>false)=List.replicate n (ab false):=bRow_fill
   rw[← hbl]
   refine AWp.viewP (Lf:=Lf) (Lk:=[(bd,.row 4 1 (bRow n fun _=>false) n)]) (L':=[(bd,.row 4 1 (bRow n fun _=>false) n)]) (.refl _) (LVw.refl _) [(3,xsP n (bloL n F) bd n)] (fun q hq => ?_) ?_
   ·obtain rfl:=List.mem_singleton.1 hq
    simp only[go_sem]
    exact .rp rfl (Vws.cons (.mkAgg (Vws.cons (.refl _) (Vws.cons hvw (Vws.refl _)))) .nil).2
   have hxs:xsP n (bloL n F) bd n = .rp 3 [.agg [ai n,.sl 1 (bloL n F),.ls bd 1 0 n n]] 0 0:=rfl
   rw[hxs]
   simp only[go_sem]
   refine Wk ?_
   refine ret_sub [(bd,.row 4 1 (bRow n fun _=>false) n)] (List.Sublist.refl _) ?_
   simp only[go_sem]
   exact⟨_,rfl,rfl⟩
open Classical in
noncomputable def insU (l:List (List Int)) (x:List Int):List (List Int):=if x ∈ l then l else l ++ [x]
noncomputable def addU (l xs:List (List Int)):List (List Int):=xs.foldl insU l
theorem mem_insU {l:List (List Int)} {x y:List Int} : y ∈ insU l x↔y ∈ l∨y=x:=by
 unfold insU
 split
 ·rename_i h
  exact⟨.inl,fun g=>g.elim id fun e=>by rw[e];exact h⟩
 ·rw[List.mem_append,List.mem_singleton]
theorem mem_addU {y:List Int} : ∀ {xs l:List (List Int)},y ∈ addU l xs↔y ∈ l∨y ∈ xs
 | [],l=>by unfold addU;simp
 | x :: xs,l=>by
  show y ∈ addU (insU l x) xs↔_
  rw[mem_addU,mem_insU,List.mem_cons,or_assoc]
theorem nd_insU {l:List (List Int)} {x:List Int} (h:l.Nodup):(insU l x).Nodup:=by
 unfold insU
 split
 ·exact h
 ·rename_i hx
  exact List.nodup_append.2 ⟨h,by simp,fun a ha b hb=>by rw[List.mem_singleton.1 hb];rintro rfl;exact hx ha⟩
theorem nd_addU:∀ {xs l:List (List Int)},l.Nodup→(addU l xs).Nodup
 | [],_,h=>h
 | x :: xs,l,h=>by
  show (addU (insU l x) xs).Nodup
  exact nd_addU (nd_insU h)
theorem len_insU (l:List (List Int)) (x:List Int):l.length≤(insU l x).length:=by
 unfold insU
 split
 ·exact Nat.le_refl _
 ·simp
theorem len_addU:∀(xs l:List (List Int)),l.length≤(addU l xs).length
 | [],l=>Nat.le_refl _
 | x :: xs,l=>Nat.le_trans (len_insU l x) (len_addU xs (insU l x))
theorem addU_snoc (l xs:List (List Int)) (x:List Int):addU l (xs ++ [x])=insU (addU l xs) x:=by
 unfold addU;rw[List.foldl_append];rfl
def nbr (ps:List Pr) (c:List Int):List (List Int):=(enF ps c ps.length).map (stpC c)
noncomputable def nxU (ps:List Pr) (l:List (List Int)):List (List Int):=l.foldl (fun r c=>addU r (nbr ps c)) []
theorem nxU_snoc (ps:List Pr) (l:List (List Int)) (c:List Int):nxU ps (l ++ [c])=addU (nxU ps l) (nbr ps c):=by
 unfold nxU;rw[List.foldl_append];rfl
theorem nxU_take {ps:List Pr} {l:List (List Int)} {i:Nat} (hi:i<l.length):nxU ps (l.take (i+1))=addU (nxU ps (l.take i)) (nbr ps l[i]):=by
 rw[List.take_succ_eq_append_getElem hi,nxU_snoc]
theorem mem_nxU {ps:List Pr} {y:List Int} : ∀ {l:List (List Int)} {r:List (List Int)},y ∈ l.foldl (fun r c=>addU r (nbr ps c)) r↔y ∈ r∨∃c ∈ l,y ∈ nbr ps c
 | [],r=>by simp
 | c :: l,r=>by
  rw[List.foldl_cons,mem_nxU,mem_addU]
  simp only[List.mem_cons,exists_eq_or_imp,or_assoc]
theorem nd_nxU {ps:List Pr} : ∀ {l:List (List Int)} {r:List (List Int)},r.Nodup→(l.foldl (fun r c=>addU r (nbr ps c)) r).Nodup
 | [],_,h=>h
 | c :: l,r,h=>by
  rw[List.foldl_cons]
  exact nd_nxU (nd_addU h)
theorem len_nxU {ps:List Pr} : ∀(l:List (List Int)) (r:List (List Int)),r.length≤(l.foldl (fun r c=>addU r (nbr ps c)) r).length
 | [],_=>Nat.le_refl _
 | c :: l,r=>Nat.le_trans (len_addU (nbr ps c) r) (len_nxU l _)
theorem len_nxU_take (ps:List Pr) (l:List (List Int)) (i:Nat):(nxU ps (l.take i)).length≤(nxU ps l).length:=by
 have h:nxU ps l=(l.drop i).foldl (fun r c=>addU r (nbr ps c)) (nxU ps (l.take i)):=by
  unfold nxU
  rw[← List.foldl_append,List.take_append_drop]
 rw[h]
 exact len_nxU _ _
noncomputable def lvU (ps:List Pr):Nat→List (List Int)
 | 0=>[zeroC ps]
 | k+1=>nxU ps (lvU ps k)
theorem nd_lvU (ps:List Pr):∀k,(lvU ps k).Nodup
 | 0=>by simp [lvU]
 | _+1=>nd_nxU List.nodup_nil
section
variable {ps:List Pr} (hv:validF ps=true)
include hv
omit hv in
theorem nbr_mem {c d:List Int} (hc:isF ps c=true):d ∈ nbr ps c↔d ∈ nextL ps c:=by
 have hl:=(isF_iff.1 hc).1
 unfold nbr
 rw[mem_nextL,List.mem_map]
 constructor
 ·rintro⟨p,hp,rfl⟩
  obtain⟨h1,h2⟩:=mem_enF.1 hp
  have h3:=of_decide_eq_true (show decide (cAt c p<nev ps p∧isF ps (stpC c p)=true)=true from h2)
  exact⟨p,by omega,h3.1,h3.2,rfl⟩
 ·rintro⟨p,h1,h2,h3,rfl⟩
  exact⟨p,mem_enF.2 ⟨by omega,decide_eq_true ⟨h2,h3⟩⟩,rfl⟩
theorem mem_lvU:∀(k:Nat) (c:List Int),c ∈ lvU ps k↔isF ps c=true∧c.sum=k
 | 0,c=>by rw[← mem_levF hv];rfl
 | k+1,c=>by
  show c ∈ nxU ps (lvU ps k)↔_
  unfold nxU
  rw[mem_nxU,← mem_levF hv]
  show _↔c ∈ moreT ps (levF ps k)
  unfold moreT
  rw[mem_more]
  refine or_congr Iff.rfl ⟨fun ⟨d,h1,h2⟩ => ?_,fun ⟨d,h1,h2⟩ => ?_⟩
  ·have h3:=(mem_lvU k d).1 h1
   exact⟨d,(mem_levF hv k d).2 h3,(nbr_mem h3.1).1 h2⟩
  ·have h3:=(mem_levF hv k d).1 h1
   exact⟨d,(mem_lvU k d).2 h3,(nbr_mem h3.1).2 h2⟩
theorem len_lvU (k:Nat):(lvU ps k).length=(levF ps k).length:=by
 refine((List.perm_ext_iff_of_nodup (nd_lvU ps k) (level_nodup hv k)).2 fun c => ?_).length_eq
 rw[mem_lvU hv,mem_levF hv]
theorem cum_lvU (k:Nat):(cumF ps (k+1)).length=(cumF ps k).length+(lvU ps k).length:=by
 rw[cumF_succ,List.length_append,len_lvU hv]
end
def txC (ps:List Pr) (c:List Int):ByteArray:=txN (off ps ps.length) (setC ps c)
theorem txC_inj {ps:List Pr} {c d:List Int} (hc:isF ps c=true) (hd:isF ps d=true) (h:txC ps c=txC ps d):c=d:=by
 obtain⟨cl,cr,_⟩:=isF_iff.1 hc
 obtain⟨dl,dr,_⟩:=isF_iff.1 hd
 have cr:=(inRange_iff cl).1 cr
 have dr:=(inRange_iff dl).1 dr
 have hs:=txN_inj h
 have key:∀p,p<ps.length→cAt c p=cAt d p:=fun p hp=>by
  have h1:=cr p hp
  have h2:=dr p hp
  apply Classical.byContradiction
  intro hne
  rcases Int.lt_or_gt_of_ne hne with h3|h3
  ·have hi:(cAt c p).toNat<ps[p].evs.length:=by omega
   have h4:=hs _ (off_lt hp hi)
   rw[setC_at hp hi,setC_at hp hi,decide_eq_false (by omega),decide_eq_true (by omega)] at h4
   cases h4
  ·have hi:(cAt d p).toNat<ps[p].evs.length:=by omega
   have h4:=hs _ (off_lt hp hi)
   rw[setC_at hp hi,setC_at hp hi,decide_eq_true (by omega),decide_eq_false (by omega)] at h4
   cases h4
 refine List.ext_getElem (by omega) fun p h1 h2 => ?_
 rw[← cAt_nat h1,← cAt_nat h2]
 exact key p (by omega)
end Go.AL
end
