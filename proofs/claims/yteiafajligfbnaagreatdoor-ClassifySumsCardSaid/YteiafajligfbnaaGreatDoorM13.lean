/- Texts of this claim's proof: WI2, WV1, WSq, WV2, WV3, WNk, WXh, WXi, WOe, WV4, WV5, WFa, WFb, WGp, WGa, WV7, WXp, WV6, WV10, WV8, WV11, WV12, WV13, WV15, WCs, WV16, WPw3, WV17, WI3. No condition. -/
import Derived.Test.YteiafajligfbnaaGreatDoorM12
import Derived.Test.YteiafajligfbnaaGreatDoorM4
import Derived.Test.YteiafajligfbnaaGreatDoorM11
import Derived.Test.YteiafajligfbnaaGreatDoorM9
import Derived.Test.YteiafajligfbnaaGreatDoorM10
import Derived.Test.YteiafajligfbnaaGreatDoorM5
section
namespace Go.AL
open Go Go.RowKit
set_option maxRecDepth 4000
mutual
def normF:Pd→Bool→Pd
 | .mk k n p q s l,b=>if k=15 then hdN l (!b) else .mk (if b then oppF k else k) n p q s (if 16≤k∧k≤21 then nrmL l b else if b=true∧(k=11∨k=12) then l.reverse else l)
def hdN:List Pd→Bool→Pd
 | [],_ => .mk 0 0 0 0 ByteArray.empty []
 | x :: _,b=>normF x b
def nrmL:List Pd→Bool→List Pd
 | [],_=>[]
 | x :: r,b=>normF x b :: nrmL r b
end
theorem nrmL_map (b:Bool):∀l,nrmL l b=l.map fun x=>normF x b
 | []=>by rw[nrmL];rfl
 | x :: r=>by rw[nrmL,nrmL_map b r];rfl
theorem normF_mk (k n p q:Int) (s:ByteArray) (l:List Pd) (b:Bool):normF (.mk k n p q s l) b=if k=15 then hdN l (!b) else .mk (if b then oppF k else k) n p q s (if 16≤k∧k≤21 then l.map (fun x=>normF x b) else if b=true∧(k=11∨k=12) then l.reverse else l):=by
 rw[normF,nrmL_map]
theorem hdN_one (x:Pd) (b:Bool):hdN [x] b=normF x b:=by rw[hdN]
theorem locB_len {k n p q:Int} {s:ByteArray} {l:List Pd} (h:locB (.mk k n p q s l)=true):partsF k=l.length:=by
 unfold locB at h
 simp only[Bool.and_eq_true,decide_eq_true_eq] at h
 exact h.1.1
theorem len_one {l:List Pd} (h:l.length=1):∃x,l=[x]:=List.length_eq_one_iff.1 h
theorem len_two {l:List Pd} (h:l.length=2):∃x y,l=[x,y]:=by
 match l,h with
 | [x,y],_=>exact⟨x,y,rfl⟩
theorem preds_Reverse2 (b cap:Nat) (x y:Pd):MCalls Proofs.Tryz.prog 135 [.ls b 6 0 2 cap] [(b,.row 27 6 [aPd x,aPd y] cap)] (fun _ L=>L=[(b,.row 27 6 [aPd y,aPd x] cap)]):=by
 obtain⟨k1,n1,p1,q1,s1,l1⟩:=x
 obtain⟨k2,n2,p2,q2,s2,l2⟩:=y
 simp only[aPd_mk]
 refine MCalls.enter' 28 [] [] Proofs.Tryz.func135 rfl rfl rfl rfl rfl (by simp) (AWp.of ?_);simp only[go_sem]
 refine Wk ?_
 generalize hx:AV.agg [ai k1,ai n1,ai p1,ai q1,astr s1,.sl 6 (l1.map aPd)]=x at *
 generalize hy:AV.agg [ai k2,ai n2,ai p2,ai q2,astr s2,.sl 6 (l2.map aPd)]=y at *
 refine AWp.block (AWp.loopN [2,3] [0] (fun m vs L=>(m=1∧vs=[ai 0,ai 1]∧L=[(b,.row 27 6 [x,y] cap)])∨(m=0∧vs=[ai 1,ai 0]∧L=[(b,.row 27 6 [y,x] cap)])) 1 (.inl ⟨rfl,rfl,rfl⟩) ?_)
 rintro m vs L - (⟨rfl,rfl,rfl⟩|⟨rfl,rfl,rfl⟩)
 ·subst hx
  subst hy
  simp only[go_sem]
  refine Wk ?_
  refine⟨fun h1 => ?_,fun h1 => ?_⟩
  ·repeat(first|(with_reducible refine AWp.seq ?_)|(with_reducible refine AWp.block ?_))
   refine AWp.mix mixed [0,1,2,3,4,5,6,8,9,10] (.step 7 (.step 11 (.step 12 (.step 13 (.step 14 (.step 15 .done .done) .done) .done) .done) .done) (.step 11 (.step 7 (.step 12 (.step 13 (.step 14 (.step 15 .done .done) .done) .done) .done) .done) .done)) (by kernel_rfl) ?_;simp only[go_sem]
   refine Sd ?_
   refine⟨?_,?_⟩
   all_goals
    refine Wk ?_
    exact⟨_,List.Sublist.refl _,0,by decide,.inr ⟨rfl,rfl,rfl⟩⟩
  ·exact absurd (by decide) h1
 ·simp only[go_sem]
  refine Wk ?_
  intro h1
  refine ret_own ?_
  simp only[go_sem]
theorem parts_zero {k:Int} (h:partsF k=(([]:List Pd).length:Int)):¬k=16∧¬k=17∧¬k=18∧¬k=21∧¬k=19∧¬k=20∧¬k=11∧¬k=12:=by
 have h:partsF k=0:=h
 refine⟨?_,?_,?_,?_,?_,?_,?_,?_⟩ <;> (rintro rfl;exact absurd h (by decide))
def nrmR (l:List Pd) (b:Bool) (i:Nat):List AV:=((l.take i).map fun x=>normF x b).map aPd ++ (l.drop i).map aPd
theorem nrmR_row {b:Bool} {l:List Pd} {i:Nat} (hi:i<l.length):(nrmR l b i).set i (aPd (normF l[i] b))=nrmR l b (i+1):=by
 unfold nrmR
 have h1:(((l.take i).map fun x=>normF x b).map aPd).length=i:=by simp;omega
 rw[List.set_append,if_neg (by omega),h1,Nat.sub_self,List.drop_eq_getElem_cons hi,List.map_cons,List.set_cons_zero,List.take_succ_eq_append_getElem hi,List.map_append,List.map_append,List.append_assoc]
 rfl
theorem nrmR_len {b:Bool} {l:List Pd} {i:Nat} (hi:i≤l.length):(nrmR l b i).length=l.length:=by
 unfold nrmR
 simp;omega
theorem nrmR_get {b:Bool} {l:List Pd} {i:Nat} (hi:i<l.length):(nrmR l b i).getD i .any=aPd l[i]:=by
 unfold nrmR
 have h1:(((l.take i).map fun x=>normF x b).map aPd).length=i:=by simp;omega
 rw[List.getD_eq_getElem?_getD,List.getElem?_append_right (by omega),h1,Nat.sub_self,List.drop_eq_getElem_cons hi]
 rfl
theorem nrmR_zero (l:List Pd) (b:Bool):nrmR l b 0=l.map aPd:=by unfold nrmR;simp
theorem nrmR_full (l:List Pd) (b:Bool):nrmR l b l.length=(l.map fun x=>normF x b).map aPd:=by unfold nrmR;rw[List.take_length,List.drop_length,List.map_nil,List.append_nil]
set_option maxHeartbeats 2000000 in
theorem classify_normal (t:Pd):szF t≤1000000→allB locB t=true→∀b,PC Proofs.Tryz.prog 90 [aPd t,ab b] (aPd (normF t b)):=by
 induction t using Pd.ind with
 | _ k n p q s l ih =>
 intro hz hloc b
 have hsz:szF (.mk k n p q s l)=szL l+1:=by rw[szF]
 have hll:=szL_len l
 rw[allB_mk,Bool.and_eq_true] at hloc
 obtain⟨hlc,hcl⟩:=hloc
 have hpl:=locB_len hlc
 have hsp:=normF_mk k n p q s l b
 have hcp:=classify_copiedM (.mk k n p q s l) hz
 rw[aPd_mk] at hcp
 have hop:=classify_opposite k
 have hch:=fun i (hi:i<l.length) b=>ih l[i] (List.getElem_mem hi) (by have:=szL_mem (List.getElem_mem hi);omega) (List.all_eq_true.1 hcl _ (List.getElem_mem hi)) b
 generalize normF (.mk k n p q s l) b=T at *
 by_cases h15:k=15
 ·subst h15
  have h1:partsF 15=1:=by decide
  obtain⟨x,rfl⟩:=len_one (l:=l) (by omega)
  rw[if_pos rfl,hdN_one] at hsp
  have hx:=hch 0 (by simp) (!b)
  simp only[List.getElem_cons_zero] at hx
  rw[← hsp] at hx
  clear hch hcp hop
  obtain⟨k2,n2,p2,q2,s2,l2⟩:=x
  obtain⟨k3,n3,p3,q3,s3,l3⟩:=T
  simp only[aPd_mk,List.map_cons,List.map_nil] at *
  refine PC.enter 58 [.cell 4 27] [2,7] Proofs.Tryz.func90 rfl rfl rfl rfl rfl (by simp) (AWp.of ?_);simp only[go_sem]
  intro b4
  repeat(first|((with_reducible refine AWp.ofC ?_ ?_);exact rfl;simp only[go_sem,Int.reduceEq])|((with_reducible refine an ?_ ?_);exact Au))
  refine Sd ?_
  refine(hx).val.use ?_;simp only[go_sem]
  refine Wk ?_
  refine ret_eq ?_;simp only[go_sem]
 ·rw[if_neg h15] at hsp
  generalize hK:(if b=true then oppF k else k)=K at *
  refine PC.enter 58 [.cell 4 27] [2,7] Proofs.Tryz.func90 rfl rfl rfl rfl rfl (by simp) (AWp.of ?_);simp only[go_sem]
  intro b4
  refine W1 h15 ?_
  refine(MVal.nd (MVal.frame (Lm:=[]) (Lr:=[(b4,.row 27 6 [aPd0] 1)]) hcp.val)).mono ?_
  rintro r L ⟨hnd,L1,rfl,v,rfl,hA⟩
  have pAP:AV.agg [ai k,ai n,ai p,ai q,astr s,.sl 6 (l.map aPd)]=aPd (.mk k n p q s l):=by rw[aPd_mk]
  rcases hA.inv with ⟨e1,rfl,rfl⟩|⟨bq,cap,rfl,rfl⟩
  ·have hl0:l=[]:=List.map_eq_nil_iff.1 e1
   subst hl0
   obtain⟨z1,z2,z3,z4,z5,z6,z7,z8⟩:=parts_zero hpl
   simp only[go_sem,h15]
   intro b5 g1
   refine Sd ?_
   have n1:¬b4=b5:=by omega
   have n2:¬b5=b4:=by omega
   refine AWp.cut [1,2,4,5] (fun vs L=>L=[(b5,.row 27 6 [.agg [ai K,ai n,ai p,ai q,astr s,anil]] 1),(b4,.row 27 6 [aPd0] 1)]∧vs=[ab b,.rp 6 [.agg [ai k,ai n,ai p,ai q,astr s,.sl 6 []]] 0 0,.lp b4 6 0 0,.lp b5 6 0 0]) ?_ ?_
   ·cases b
    ·refine Wk ?_
     exact⟨_,List.Sublist.refl _,by rw[← hK];rfl⟩
    ·refine Wk ?_
     refine Sd ?_
     refine(hop).val.use ?_;simp only[go_sem]
     refine W2 n1 n2 ?_
     exact⟨_,List.Sublist.refl _,by rw[← hK];rfl⟩
   rintro vs L - ⟨rfl,rfl⟩
   simp only[go_sem]
   repeat(first|((with_reducible refine AWp.ofC ?_ ?_);exact rfl;simp only[go_sem,z1,z2,z3,z4,z5,z6,z7,z8,n1,n2,aPd0])|((with_reducible refine an ?_ ?_);exact Au))
   refine ret_view [] ?_;simp only[go_sem,n1,n2]
   rw[hsp]
   simp only[List.map_nil,List.reverse_nil,ite_self,aPd_mk]
   exact .mkAgg (Vws.cons (.refl _) (Vws.cons (.refl _) (Vws.cons (.refl _) (Vws.cons (.refl _) (Vws.cons (.refl _) (Vws.cons (.nil 6) .nil))))))
  ·have hlm:(l.map aPd).length=l.length:=List.length_map _
   rw[hlm]
   simp only[go_sem,h15]
   intro b5 g1 g2
   refine Sd ?_
   have hq4:¬bq=b4:=by simp at hnd;exact hnd
   have n0:¬b4=bq:=fun e=>hq4 e.symm
   have n1:¬b4=b5:=by omega
   have n2:¬b5=b4:=by omega
   have n3:¬bq=b5:=by omega
   have n4:¬b5=bq:=by omega
   refine AWp.cut [1,2,4,5] (fun vs L=>L=[(bq,.row 27 6 (l.map aPd) cap),(b5,.row 27 6 [.agg [ai K,ai n,ai p,ai q,astr s,.ls bq 6 0 l.length cap]] 1),(b4,.row 27 6 [aPd0] 1)]∧vs=[ab b,.rp 6 [.agg [ai k,ai n,ai p,ai q,astr s,.sl 6 (l.map aPd)]] 0 0,.lp b4 6 0 0,.lp b5 6 0 0]) ?_ ?_
   ·refine AWp.perm (L':=[(bq,.row 27 6 (l.map aPd) cap),(b5,.row 27 6 [.agg [ai k,ai n,ai p,ai q,astr s,.ls bq 6 0 l.length cap]] 1),(b4,.row 27 6 [aPd0] 1)]) (List.Perm.swap _ _ _) ?_
    cases b
    ·refine Wk ?_
     exact⟨_,List.Sublist.refl _,by rw[← hK];rfl⟩
    ·refine Wk ?_
     refine Sd ?_
     refine(hop).val.use ?_;simp only[go_sem,n1,n2,n3,n4]
     refine W4 n1 n2 n3 n4 ?_
     exact⟨_,List.Sublist.refl _,by rw[← hK];rfl⟩
   rintro vs L - ⟨rfl,rfl⟩
   by_cases hT:16≤k∧k≤21
   ·rw[if_pos hT] at hsp
    have hk6:k=16∨k=17∨k=18∨k=21∨k=19∨k=20:=by omega
    have hee:aPd T = .agg [ai K,ai n,ai p,ai q,astr s,.sl 6 ((l.map fun x=>normF x b).map aPd)]:=by rw[hsp,aPd_mk]
    rw[hee]
    clear hee hsp hop hcp hK hpl hlc pAP
    rcases hk6 with rfl|rfl|rfl|rfl|rfl|rfl
    all_goals
     simp only[go_sem]
     repeat(first|((with_reducible refine AWp.ofC ?_ ?_);exact rfl;simp only[go_sem,Int.reduceEq,n0,n1,n2,n3,n4,hlm])|((with_reducible refine an ?_ ?_);exact Au))
     refine AWp.range' l.length [] [1,4,5,35,36] (fun i vs L=>L=[(bq,.row 27 6 (nrmR l b i) cap),(b5,.row 27 6 [.agg [ai K,ai n,ai p,ai q,astr s,.ls bq 6 0 l.length cap]] 1),(b4,.row 27 6 [aPd0] 1)]) (by omega) rfl rfl rfl (by rw[nrmR_zero]) ?_ ?_
     ·rintro i vs L hil - rfl
      simp only[go_sem]
      have hgi:=getD_map (f:=aPd) hil
      have hxc:=hch i hil b
      have hst:=nrmR_row (b:=b) hil
      have hgy:=nrmR_get (b:=b) hil
      have hyl:=nrmR_len (b:=b) (l:=l) (i:=i) (by omega)
      clear hch ih hcl
      generalize nrmR l b i=ys at *
      generalize nrmR l b (i+1)=zs at *
      generalize normF l[i] b=z at *
      generalize l[i]=x at *
      obtain⟨k2,o2,p2,q2,s2,l2⟩:=x
      obtain⟨k3,o3,p3,q3,s3,l3⟩:=z
      simp only[aPd_mk] at hgi hxc hst hgy
      repeat(first|((with_reducible refine AWp.ofC ?_ ?_);exact rfl;simp only[go_sem,hgi,n0,n1,n2,n3,n4,hlm])|((with_reducible refine an ?_ ?_);exact Au))
      intro b7 g3 g4 g5
      have m1:¬bq=b7:=by omega
      have m2:¬b5=b7:=by omega
      have m3:¬b4=b7:=by omega
      have m4:¬b7=bq:=by omega
      have m5:¬b7=b5:=by omega
      have m6:¬b7=b4:=by omega
      refine Sd ?_
      repeat(first|(with_reducible refine AWp.seq ?_)|(with_reducible refine AWp.block ?_))
      refine AWp.readW mixed [0,1,2,3,4,5,6] 7 (by kernel_rfl) ?_;simp only[go_sem,hgi,n0,n1,n2,n3,n4,m1,m2,m3,m4,m5,m6,hyl,hlm]
      refine Sd ?_
      refine GCall.use (.agg [ai k3,ai o3,ai p3,ai q3,astr s3,.sl 6 (l3.map aPd)]) (fun _=>⟨At,(hxc).val.use ⟨rfl,rfl⟩⟩) ?_;simp only[go_sem,hgi,n0,n1,n2,n3,n4,m1,m2,m3,m4,m5,m6,hyl,hlm,hgy,List.drop_nil]
      refine Sd ?_
      exact⟨_,List.Sublist.refl _,by rw[hst]⟩
     ·rintro vs L - rfl
      have hyl2:((l.map fun x=>normF x b).map aPd).length=l.length:=by simp
      rw[nrmR_full]
      simp only[go_sem]
      repeat(first|((with_reducible refine AWp.ofC ?_ ?_);exact rfl;simp only[go_sem,n0,n1,n2,n3,n4,aPd0])|((with_reducible refine an ?_ ?_);exact Au))
      refine ret_view [true,false,false] ?_;simp only[go_sem,n0,n1,n2,n3,n4]
      exact .mkAgg (Vws.cons (.refl _) (Vws.cons (.refl _) (Vws.cons (.refl _) (Vws.cons (.refl _) (Vws.cons (.refl _) (Vws.cons (Vw.ofLs (if_pos rfl) hyl2.symm) .nil))))))
   rw[if_neg hT] at hsp
   have z1:¬k=16:=by omega
   have z2:¬k=17:=by omega
   have z3:¬k=18:=by omega
   have z4:¬k=21:=by omega
   have z5:¬k=19:=by omega
   have z6:¬k=20:=by omega
   by_cases hR:b=true∧(k=11∨k=12)
   ·rw[if_pos hR] at hsp
    obtain⟨rfl,hR⟩:=hR
    have hp2:partsF k=2:=by rcases hR with rfl|rfl <;> decide
    obtain⟨x,y,rfl⟩:=len_two (l:=l) (by omega)
    have hrv:=preds_Reverse2 bq cap x y
    clear hch ih
    rw[hsp]
    simp only[aPd_mk,List.map_cons,List.map_nil,List.reverse_cons,List.reverse_nil,List.nil_append,List.cons_append,List.length_cons,List.length_nil] at *
    generalize hX:aPd x=X at *
    generalize hY:aPd y=Y at *
    rcases hR with rfl|rfl
    all_goals
     simp only[go_sem]
     repeat(first|((with_reducible refine AWp.ofC ?_ ?_);exact rfl;simp only[go_sem,Int.reduceEq,n0,n1,n2,n3,n4])|((with_reducible refine an ?_ ?_);exact Au))
     refine(MVal.frame (Lm:=[(bq,.row 27 6 [X,Y] cap)]) (Lr:=[(b5,.row 27 6 [.agg [ai K,ai n,ai p,ai q,astr s,.ls bq 6 0 2 cap]] 1),(b4,.row 27 6 [aPd0] 1)]) hrv.val).mono ?_
     rintro r L ⟨L1,rfl,rfl⟩
     simp only[go_sem]
     repeat(first|((with_reducible refine AWp.ofC ?_ ?_);exact rfl;simp only[go_sem,n0,n1,n2,n3,n4,aPd0])|((with_reducible refine an ?_ ?_);exact Au))
     refine ret_view [true,false,false] ?_;simp only[go_sem,n0,n1,n2,n3,n4]
     exact .mkAgg (Vws.cons (.refl _) (Vws.cons (.refl _) (Vws.cons (.refl _) (Vws.cons (.refl _) (Vws.cons (.refl _) (Vws.cons (Vw.ofLs (if_pos rfl) rfl) .nil))))))
   rw[if_neg hR] at hsp
   have hbk:b=false∨(¬k=11∧¬k=12):=by
    cases b
    ·exact .inl rfl
    ·exact .inr ⟨fun e=>hR ⟨rfl,.inl e⟩,fun e=>hR ⟨rfl,.inr e⟩⟩
   rw[hsp]
   simp only[aPd_mk]
   rcases hbk with rfl|⟨z7,z8⟩
   ·by_cases e7:k=11
    ·subst e7
     simp only[go_sem]
     repeat(first|((with_reducible refine AWp.ofC ?_ ?_);exact rfl;simp only[go_sem,Int.reduceEq,n0,n1,n2,n3,n4,aPd0])|((with_reducible refine an ?_ ?_);exact Au))
     refine ret_view [true,false,false] ?_;simp only[go_sem,n0,n1,n2,n3,n4]
     exact .mkAgg (Vws.cons (.refl _) (Vws.cons (.refl _) (Vws.cons (.refl _) (Vws.cons (.refl _) (Vws.cons (.refl _) (Vws.cons (Vw.ofLs (if_pos rfl) hlm.symm) .nil))))))
    ·by_cases e8:k=12
     ·subst e8
      simp only[go_sem]
      repeat(first|((with_reducible refine AWp.ofC ?_ ?_);exact rfl;simp only[go_sem,Int.reduceEq,n0,n1,n2,n3,n4,aPd0])|((with_reducible refine an ?_ ?_);exact Au))
      refine ret_view [true,false,false] ?_;simp only[go_sem,n0,n1,n2,n3,n4]
      exact .mkAgg (Vws.cons (.refl _) (Vws.cons (.refl _) (Vws.cons (.refl _) (Vws.cons (.refl _) (Vws.cons (.refl _) (Vws.cons (Vw.ofLs (if_pos rfl) hlm.symm) .nil))))))
     ·simp only[go_sem]
      repeat(first|((with_reducible refine AWp.ofC ?_ ?_);exact rfl;simp only[go_sem,z1,z2,z3,z4,z5,z6,e7,e8,n0,n1,n2,n3,n4,aPd0])|((with_reducible refine an ?_ ?_);exact Au))
      refine ret_view [true,false,false] ?_;simp only[go_sem,n0,n1,n2,n3,n4]
      exact .mkAgg (Vws.cons (.refl _) (Vws.cons (.refl _) (Vws.cons (.refl _) (Vws.cons (.refl _) (Vws.cons (.refl _) (Vws.cons (Vw.ofLs (if_pos rfl) hlm.symm) .nil))))))
   ·simp only[go_sem]
    repeat(first|((with_reducible refine AWp.ofC ?_ ?_);exact rfl;simp only[go_sem,z1,z2,z3,z4,z5,z6,z7,z8,n0,n1,n2,n3,n4,aPd0])|((with_reducible refine an ?_ ?_);exact Au))
    refine ret_view [true,false,false] ?_;simp only[go_sem,n0,n1,n2,n3,n4]
    exact .mkAgg (Vws.cons (.refl _) (Vws.cons (.refl _) (Vws.cons (.refl _) (Vws.cons (.refl _) (Vws.cons (.refl _) (Vws.cons (Vw.ofLs (if_pos rfl) hlm.symm) .nil))))))
end Go.AL
end
section
namespace Go.AL
open Go Go.RowKit
section
variable {α:Type} (bg:α→α→Bool) (len:Nat→Nat) (f:Nat→Nat→α) (n:Nat)
def Tgt (t:Nat→Nat):Prop:=(∀p,p<n→t p<len p)∧∀p q,p<n→q<n→p ≠ q→bg (f p (t p)) (f q (t q))=true
def LeastT (a:Nat→Nat):Prop:=Tgt bg len f n a∧∀t,Tgt bg len f n t→∀p,p<n→a p≤t p
variable {bg len f n}
end
end Go.AL
end
section
namespace Go.AL
open Go Go.RowKit
set_option maxRecDepth 4000
section
variable {b:Nat→Bool} {p:Nat}
end
structure SpOk (b:Nat→Bool) (p K:Nat) (l:List Stp):Prop where
 el:∀s ∈ l,s.1=p∧s.2.1≤s.2.2∧s.2.2<K∧∀j,s.2.1≤j→j≤s.2.2→b j=true
 ord:l.Pairwise fun s u=>s.2.2+1<u.2.1
 cov:∀j,j<K→b j=true→∃s ∈ l,s.2.1≤j∧j≤s.2.2
section
variable {b:Nat→Bool} {p K:Nat} {l:List Stp}
end
def bgN (ps:List Pr) (a o:Stp):Bool:=decide (a.2.1=0) || (decide (o.2.2=nev ps o.1) || decide ((a.2.1:Int)≤cAt (ptF ps o.1 o.2.2) a.1))
def fSp (rows:Nat→List Stp) (p i:Nat):Stp:=(rows p).getD i (0,0,0)
def lenSp (rows:Nat→List Stp) (p:Nat):Nat:=(rows p).length
abbrev LeastS (ps:List Pr) (rows:Nat→List Stp) (t:Nat→Nat):Prop:=LeastT (bgN ps) (lenSp rows) (fSp rows) ps.length t
def RowsOk (ps:List Pr) (b:Nat→Nat→Bool) (rows:Nat→List Stp):Prop:=∀p,p<ps.length→SpOk (b p) p (nev ps p+1) (rows p)
def AvoidC (ps:List Pr) (b:Nat→Nat→Bool) (c:List Int):Prop:=∃p,p<ps.length∧b p (cAt c p).toNat=false
section
variable {ps:List Pr} (hv:validF ps=true)
include hv
end
section
variable {ps:List Pr} {b:Nat→Nat→Bool} {rows:Nat→List Stp} (hv:validF ps=true) (hR:RowsOk ps b rows)
include hR
end
section
variable {ps:List Pr} (hv:validF ps=true)
include hv
end
section
variable {ps:List Pr} (hv:validF ps=true)
include hv
end
open Classical in
noncomputable def tgtO (ps:List Pr) (rows:Nat→List Stp):Option (Nat→Nat):=if h:∃a,LeastS ps rows a then some (Classical.choose h) else none
structure DgO (ps:List Pr) (b:Nat→Nat→Bool) (O:List (List Int)) (c:List Int):Prop where
 ex:∃R,O=zeroC ps :: R∧chnF ps (zeroC ps) R=true
 last:O.getLast?=some c
 av:∀d ∈ O,AvoidC ps b d
section
variable {ps:List Pr} (hv:validF ps=true) {b:Nat→Nat→Bool}
theorem DgO.start (h:AvoidC ps b (zeroC ps)):DgO ps b [zeroC ps] (zeroC ps):=⟨⟨[],rfl,rfl⟩,rfl,fun d hd=>by simp only[List.mem_singleton] at hd;subst hd;exact h⟩
include hv in
end
end Go.AL
end
section
namespace Go.AL
open Go Go.RowKit
set_option maxRecDepth 4000
def pastV (ps:List Pr) (s:Stp):AV:=if s.2.2=nev ps s.1 then anil else aInts (ptF ps s.1 s.2.2)
def aStr (ps:List Pr) (s:Stp):AV:=.agg [ai s.1,ai s.2.1,ai s.2.2,pastV ps s]
theorem pastV_fo (ps:List Pr) (s:Stp):fo (pastV ps s)=(True,pastV ps s):=by unfold pastV;split <;> rfl
theorem pastV_one (ps:List Pr) (s:Stp):one (pastV ps s)=true:=by unfold pastV;split <;> rfl
attribute [go_sem ↓] pastV_fo pastV_one
attribute [go_sem] aStr
def BadI (n:Nat) (x:List Int) (i:Nat):Prop:=x.getD i 0<0∨(n:Int)<x.getD i 0∨(0<i∧x.getD i 0≤x.getD (i - 1) 0)
open Classical in
noncomputable def listsF (ps:List Pr) (l:List (List Int)):Int:=if validF ps=true∧l.length=ps.length then (if ∃p i,p<l.length∧i<(l.getD p []).length∧BadI (nev ps p) (l.getD p []) i then 2 else 0) else 1
end Go.AL
end
section
namespace Go.AL
open Go Go.RowKit
set_option maxRecDepth 4000
section
variable {ps:List Pr} {E:Elim} {l:List (List Int)} {a:Nat→Nat}
end
theorem ref22_Fits (ps:List Pr) (hs:Sm ps) (c:List Int):PC Proofs.Tryz.prog 23 [aTr ps,aInts c] (ab (decide (c.length=ps.length))):=by
 have hl:=hs.procs
 refine PC.enter 11 [.tmp 4] [2] Proofs.Tryz.func23 rfl rfl rfl rfl rfl (by simp) (AWp.of ?_);simp only[go_sem]
 refine Wk ?_
 refine ret_eq ?_;simp only[go_sem]
 congr 2
 simp only[decide_eq_decide];omega
theorem ref22_Range (ps:List Pr) (hs:Sm ps) (c:List Int) (hc:c.length=ps.length):PC Proofs.Tryz.prog 24 [aTr ps,aInts c] (ab (inRangeF ps c)):=by
 have hl:=hs.procs
 refine PC.enter 31 [.tmp 4] [2] Proofs.Tryz.func24 rfl rfl rfl rfl rfl (by simp) (AWp.of ?_);simp only[go_sem]
 refine Wk ?_
 refine AWp.block (AWp.count 5 c.length [] [1,2] (fun p vs L=>L=[]∧∀q,q<p→cntOk ps c q=true) rfl rfl ⟨rfl,by omega⟩ ?_)
 rintro p vs L hp - ⟨rfl,hI⟩
 simp only[go_sem]
 refine Wk ?_
 refine⟨fun h2 => ?_,fun h2 => ?_⟩
 ·have hpc:p<c.length:=by omega
  have hpp:p<ps.length:=by omega
  have hco:=cntOk_get hpp hpc
  have hgP:=getD_map (f:=aPr) hpp
  have hgc:=getD_map (f:=ai) hpc
  refine AWp.seq (AWp.block (AWp.seq ?_))
  refine AWp.drawn mixed 19 (by kernel_rfl) ?_;simp only[go_sem,hgP,hgc]
  refine Sd ?_
  refine Wk ?_
  refine⟨fun h3 => ?_,fun h3 => ?_⟩
  ·refine Wk ?_
   refine ret_eq ?_;simp only[go_sem]
   have:inRangeF ps c=false:=by
    unfold inRangeF
    rw[List.all_eq_false]
    refine⟨p,List.mem_range.2 hpc,?_⟩
    rw[hco]
    simp only[Bool.and_eq_true,decide_eq_true_eq]
    omega
   rw[this]
  ·intro h4
   refine Wk ?_
   refine⟨_,List.Sublist.refl _,rfl,fun q hq => ?_⟩
   by_cases e:q=p
   ·subst e;rw[hco];simp only[Bool.and_eq_true,decide_eq_true_eq];omega
   ·exact hI q (by omega)
 ·refine Wk ?_
  refine ret_eq ?_;simp only[go_sem]
  have:inRangeF ps c=true:=by
   unfold inRangeF
   rw[List.all_eq_true]
   exact fun q hq=>hI q (by have:=List.mem_range.1 hq;omega)
  rw[this]
theorem ref22_closed (ps:List Pr) (hs:Sm ps) (hv:validF ps=true) (c:List Int) (hc:c.length=ps.length) (hr:inRangeF ps c=true):PC Proofs.Tryz.prog 25 [aTr ps,aInts c] (ab (closedF ps c)):=by
 obtain⟨hl1,hl8⟩:=valid_len hv
 have hl:=hs.procs
 refine PC.enter 27 [.tmp 4] [2] Proofs.Tryz.func25 rfl rfl rfl rfl rfl (by simp) (AWp.of ?_);simp only[go_sem]
 refine Wk ?_
 refine AWp.block (AWp.count 5 c.length [] [1,2] (fun p vs L=>L=[]∧Ahead ps (fun q j=>badEv ps c (((q:Int),(j:Int)+1),evq ps q j)=false) p 0) rfl rfl ⟨rfl,fun _ _ _ h=>by omega,fun j hj=>by omega⟩ ?_)
 rintro p vs L hp - ⟨rfl,hA⟩
 simp only[go_sem]
 refine Wk ?_
 refine⟨fun h1 => ?_,fun h1 => ?_⟩
 ·have hpc:p<c.length:=by omega
  have hpp:p<ps.length:=by omega
  have hgc:=getD_map (f:=ai) hpc
  have hel:=hs.evs _ (List.getElem_mem hpp)
  obtain⟨hr1,hr2⟩:=inRangeF_get hr hc hpp
  refine Wk ?_
  refine AWp.block (AWp.count 6 c[p].toNat [] [1,2,5] (fun i vs L=>L=[]∧Ahead ps (fun q j=>badEv ps c (((q:Int),(j:Int)+1),evq ps q j)=false) p i) rfl rfl ⟨rfl,hA⟩ ?_)
  rintro i vs L hi - ⟨rfl,hB⟩
  simp only[go_sem]
  refine W1 hgc ?_
  refine⟨fun h2 => ?_,fun h2 => ?_⟩
  ·have hie:i<ps[p].evs.length:=by omega
   have hsn:=ref22_Sent ps hs hv c hc p hpp i hie (by rw[cAt_nat hpc];omega)
   have hev:=evIds_get hpp hie
   have hq0:=evq_get hpp hie
   rw[← hq0] at hsn hev
   refine Wk ?_
   refine Sd ?_
   refine(hsn).val.use ?_;simp only[go_sem]
   cases hb:badEv ps c (((p:Int),(i:Int)+1),evq ps p i) with
   | true =>
    refine Wk ?_
    refine ret_eq ?_;simp only[go_sem]
    unfold closedF
    have:(evIds ps).any (badEv ps c)=true:=List.any_eq_true.2 ⟨_,List.mem_of_getElem? hev,hb⟩
    rw[this];rfl
   | false =>
    refine Wk ?_
    exact⟨_,List.Sublist.refl _,rfl,hB.next hb⟩
  ·refine Wk ?_
   refine⟨_,List.Sublist.refl _,rfl,Ahead.row hpp ⟨hB.1,fun j hj => ?_⟩⟩
   by_cases e:j<i
   ·exact hB.2 j e
   ·simp only[badEv,cAt_nat hpc,decide_eq_false (show ¬(j:Int)+1≤c[p] by omega),Bool.and_false,Bool.false_and]
 ·refine Wk ?_
  refine ret_eq ?_;simp only[go_sem]
  unfold closedF
  have:(evIds ps).any (badEv ps c)=false:=by
   rw[List.any_eq_false]
   intro x hx
   obtain⟨k,hk⟩:=List.getElem?_of_mem hx
   obtain⟨q,hq,j,hj,_,rfl⟩:=evIds_inv hk
   have:=hA.1 q hq j (by omega) hj
   dsimp only at this
   rw[evq_get hq hj] at this
   rw[this];decide
  rw[this];rfl
theorem ref22_Consistent (ps:List Pr) (hs:Sm ps) (hv:validF ps=true) (c:List Int):PC Proofs.Tryz.prog 8 [aTr ps,aInts c] (ab (isF ps c)):=by
 have h0:=ref12_Valid ps hs
 have h1:=ref22_Fits ps hs c
 have h2:=fun h=>ref22_Range ps hs c h
 have h3:=fun h1 h2=>ref22_closed ps hs hv c h1 h2
 rw[hv] at h0
 unfold isF
 generalize closedF ps c=B at *
 refine PC.enter 22 [.tmp 4] [2] Proofs.Tryz.func8 rfl rfl rfl rfl rfl (by simp) (AWp.of ?_);simp only[go_sem]
 refine Wk ?_
 refine Sd ?_
 refine(h0).val.use ?_;simp only[go_sem]
 refine Sd ?_
 refine GCall.use (ab (decide (c.length=ps.length))) (fun _=>⟨At,(h1).val.use ⟨rfl,rfl⟩⟩) ?_;simp only[go_sem]
 refine Sd ?_
 refine GCall.use (ab (inRangeF ps c)) ?_ ?_
 ·intro g;exact⟨At,(h2 (by simpa using g)).val.use ⟨rfl,rfl⟩⟩
 simp only[go_sem]
 refine Sd ?_
 refine GCall.use (ab B) ?_ ?_
 ·intro g;exact⟨At,(h3 (by simpa using g.1) (by simpa using g.2)).val.use ⟨rfl,rfl⟩⟩
 simp only[go_sem]
 refine Wk ?_
 refine ret_eq ?_;simp only[go_sem]
theorem ref28_Same (t:Pd):szF t≤1000000→PC Proofs.Tryz.prog 41 [aPd t,aPd t] (ab true):=by
 induction t using Pd.ind with
 | _ k n p q s l ih =>
 intro hz
 have hsz:szF (.mk k n p q s l)=szL l+1:=by rw[szF]
 have hll:=szL_len l
 refine PC.enter 67 [.tmp 4] [2,3] Proofs.Tryz.func41 rfl rfl rfl rfl rfl (by simp) (AWp.of ?_);simp only[go_sem]
 refine Wk ?_
 refine AWp.block (AWp.count 5 l.length [] [2,3] (fun i vs L=>L=[]) rfl rfl rfl ?_)
 rintro i vs L hi - rfl
 simp only[go_sem]
 refine Wk ?_
 refine⟨fun h4 => ?_,fun h4 => ?_⟩
 ·have hil:i<l.length:=by omega
  have hgi:=getD_map (f:=aPd) hil
  have hzi:=szL_mem (List.getElem_mem hil)
  have hch:=ih l[i] (List.getElem_mem hil) (by omega)
  generalize l[i]=x at *
  obtain⟨k2,n2,p2,q2,s2,l2⟩:=x
  simp only[aPd_mk] at hgi hch
  refine AWp.seq (AWp.block (AWp.seq ?_))
  repeat(first|(with_reducible refine AWp.seq ?_)|(with_reducible refine AWp.block ?_))
  refine AWp.mix mixed [0,1,2,3,4,5,6,7,8,9,10,11] .done (by kernel_rfl) ?_;simp only[go_sem,hgi]
  refine Sd ?_
  refine Gc hch ?_
  refine Sd ?_
  refine Wk ?_
  exact⟨_,List.Sublist.refl _,rfl⟩
 ·refine Wk ?_
  refine ret_eq ?_;simp only[go_sem]
mutual
def hugeF:Pd→Int→Int→Int
 | .mk _ _ _ _ _ l,d,c=>hugeL l (d+1) (if 40<d then 1000 else c+1)
def hugeL:List Pd→Int→Int→Int
 | [],_,c=>c
 | x :: r,d,c=>if c≤300 then hugeL r d (hugeF x d c) else c
end
theorem AWp.slLen {C:Cfg} {Q:AQ} {ρ:Env} {L:AHeap} {c:Code} {k j:Nat} {xs:List AV} (hj:get ρ j = .sl k xs) (h:xs.length≤9223372036854775807→AWp C c Q ρ L):AWp C c Q ρ L:=fun hok n w0 M A0 a w hs=>by
 obtain⟨A,ds,hs'⟩:=st_iff.1 hs
 have hr:=hs'.env j
 rw[hj] at hr
 have hle:xs.length≤9223372036854775807:=by
  have hm:maxLen=9223372036854775807:=rfl
  rcases hr.inv_sl with ⟨rfl,_⟩|⟨b,off,cap,_,_,h1,h2,_⟩
  ·exact Nat.zero_le _
  ·omega
 exact h hle hok n w0 M A0 a w hs
mutual
def nodF:Pd→Int→Int→Int
 | .mk _ _ _ _ _ l,m,d=>if 40<d then m else nodL l m d 1
def nodL:List Pd→Int→Int→Int→Int
 | [],_,_,n=>n
 | x :: r,m,d,n=>if m≤n+nodF x (m - n) (d+1) then m else nodL r m d (n+nodF x (m - n) (d+1))
end
def ndsF (t:Pd) (most d:Int):Int:=if most≤1 then (if d≤40∧szF t=1 then 1 else most) else if (dpF t:Int)+d≤41∧(szF t:Int)<most then szF t else most
theorem szL_takeF {l:List Pd} {i:Nat} (hi:i<l.length):szL (l.take i)+szF l[i]≤szL l:=by
 have h1:=szL_take hi
 have h2:=szL_take_le l (i+1)
 omega
theorem dpL_mem {l:List Pd} {x:Pd} (h:x ∈ l):dpF x≤dpL l:=by
 induction l with
 | nil=>cases h
 | cons y l ih =>
  rw[dpL]
  rcases List.mem_cons.1 h with rfl|h
  ·omega
  ·have:=ih h;omega
theorem law30_nodes (t:Pd):∀most d:Int,-d - 10≤most→most≤250→0≤d→d≤41→PC Proofs.Tryz.prog 19 [aPd t,ai most,ai d] (ai (ndsF t most d)):=by
 induction t using Pd.ind with
 | _ k n p q s l ih =>
 intro most d hm0 hm1 hd0 hd1
 have hsz:szF (.mk k n p q s l)=szL l+1:=by rw[szF]
 have hdp:dpF (.mk k n p q s l)=dpL l+1:=by rw[dpF]
 have hll:=szL_len l
 have hsp:ndsF (.mk k n p q s l) most d=if most≤1 then (if d≤40∧szL l+1=1 then 1 else most) else if ((dpL l+1:Nat):Int)+d≤41∧((szL l+1:Nat):Int)<most then ((szL l+1:Nat):Int) else most:=by rw[ndsF,hsz,hdp]
 generalize ndsF (.mk k n p q s l) most d=R at *
 have hno:∀i (hi:i<l.length),(1+szL (l.take i):Int)+szF l[i] ≥ most∨41<(dpF l[i]:Int)+(d+1)→R=most:=fun i hi h=>by
  have h1:=szL_takeF hi
  have h2:=dpL_mem (List.getElem_mem hi)
  have h3:=szF_pos l[i]
  rw[hsp]
  split
  ·rw[if_neg (by omega)]
  ·rw[if_neg (by rintro⟨a,b⟩;rcases h with h|h <;> omega)]
 have hyes:(∀j (hj:j<l.length),(dpF l[j]:Int)+(d+1)≤41)→d≤40→((1+szL l:Nat):Int)<most∨(l=[])→R=((1+szL l:Nat):Int):=fun h h40 hlt=>by
  have hdl:(dpL l:Int)+d+1≤41:=by
   have:∀l':List Pd,(∀x ∈ l',(dpF x:Int)+(d+1)≤41)→(dpL l':Int)+d+1≤41:=fun l'=>by
    induction l' with
    | nil=>intro _;rw[dpL];omega
    | cons y r ih =>
     intro h
     rw[dpL]
     have h1:=h y List.mem_cons_self
     have h2:=ih fun x hx=>h x (List.mem_cons_of_mem _ hx)
     omega
   refine this l fun x hx => ?_
   obtain⟨j,hj,rfl⟩:=List.getElem_of_mem hx
   exact h j hj
  rw[hsp]
  rcases hlt with hlt|rfl
  ·rw[if_neg (by omega),if_pos (by omega)];omega
  ·have e1:szL ([]:List Pd)=0:=by rw[szL]
   have e2:dpL ([]:List Pd)=0:=by rw[dpL]
   split
   ·rw[if_pos (by omega)];omega
   ·rw[if_pos (by omega)];omega
 refine PC.enter 35 [.tmp 6] [3,9] Proofs.Tryz.func19 rfl rfl rfl rfl rfl (by simp) (AWp.of ?_);simp only[go_sem]
 refine Wk ?_
 refine⟨fun h1 => ?_,fun h1 => ?_⟩
 ·refine Wk ?_
  refine ret_eq ?_;simp only[go_sem]
  rw[hsp,if_neg (show ¬(d≤40∧szL l+1=1) by omega)]
  split
  ·rfl
  ·rw[if_neg (by omega)]
 refine Wk ?_
 refine AWp.slLen (j:=14) (k:=6) (xs:=l.map aPd) rfl fun hL => ?_
 rw[List.length_map] at hL
 refine AWp.range1' l.length [7] [1,2,14,15] (fun i vs L=>L=[]∧vs=[ai (1+szL (l.take i))]∧(i=0∨(1+szL (l.take i):Int)<most)∧∀j (hj:j<l.length),j<i→(dpF l[j]:Int)+(d+1)≤41) hL rfl rfl rfl ⟨rfl,by rw[List.take_zero,szL];rfl,.inl rfl,by omega⟩ ?_ ?_
 ·rintro i vs L hil - ⟨rfl,rfl,hlt,hI⟩
  simp only[go_sem]
  have hgi:=getD_map (f:=aPd) hil
  have hsu:=szL_take hil
  have hzp:=szF_pos l[i]
  have hb:(1+szL (l.take i):Int)<most∨(1+szL (l.take i):Int)=1:=by
   rcases hlt with rfl|hlt
   ·right;rw[List.take_zero,szL];rfl
   ·exact .inl hlt
  have hch:=ih l[i] (List.getElem_mem hil) (most - (1+szL (l.take i))) (d+1) (by omega) (by omega) (by omega) (by omega)
  have hno:=hno i hil
  have hc:ndsF l[i] (most - (1+szL (l.take i))) (d+1)=if most - (1+szL (l.take i))≤1 then (if d+1≤40∧szF l[i]=1 then 1 else most - (1+szL (l.take i))) else if (dpF l[i]:Int)+(d+1)≤41∧(szF l[i]:Int)<most - (1+szL (l.take i)) then (szF l[i]:Int) else most - (1+szL (l.take i)):=rfl
  have hnx:(dpF l[i]:Int)+(d+1)≤41→∀j (hj:j<l.length),j<i+1→(dpF l[j]:Int)+(d+1)≤41:=fun h j hj hji=>by
   by_cases e:j=i
   ·subst e;exact h
   ·exact hI j hj (by omega)
  have hnew:(1+szL (l.take (i+1)):Int)=1+szL (l.take i)+szF l[i]:=by omega
  have hNp:(1:Int)≤1+szL (l.take i):=by omega
  generalize ndsF l[i] (most - (1+szL (l.take i))) (d+1)=c at *
  generalize (1+szL (l.take i):Int)=N at *
  generalize (1+szL (l.take (i+1)):Int)=N2 at *
  have hcb:c≤250 ∧ -60≤c:=by
   rw[hc]
   split
   ·split <;> omega
   ·split <;> omega
  have hcase:(most≤N+c∧R=most)∨(N+c<most∧N2=N+c∧(dpF l[i]:Int)+(d+1)≤41):=by
   rw[hc]
   by_cases g1:most - N≤1
   ·rw[if_pos g1]
    left
    refine⟨by split <;> omega,hno (.inl (by omega))⟩
   ·rw[if_neg g1]
    by_cases g2:(dpF l[i]:Int)+(d+1)≤41∧(szF l[i]:Int)<most - N
    ·rw[if_pos g2]
     exact .inr ⟨by omega,by omega,g2.1⟩
    ·rw[if_neg g2]
     exact .inl ⟨by omega,hno (by omega)⟩
  clear hc hnew
  generalize l[i]=x at *
  obtain⟨k2,n2,p2,q2,s2,l2⟩:=x
  simp only[aPd_mk] at hgi hch
  refine W1 hgi ?_
  intro b9
  refine Sd ?_
  refine W1 hgi ?_
  refine Sd ?_
  refine(hch).val.use ?_;simp only[go_sem,hgi]
  refine Sd ?_
  refine Wk ?_
  refine⟨fun h2 => ?_,fun h2 => ?_⟩
  ·refine Wk ?_
   refine ret_eq ?_;simp only[go_sem]
   rcases hcase with ⟨_,e⟩|⟨g,_⟩
   ·rw[e]
   ·omega
  ·refine Wk ?_
   rcases hcase with ⟨g,_⟩|⟨g1,g2,g3⟩
   ·exact absurd g h2
   ·exact⟨_,List.Sublist.refl _,rfl,by rw[g2],by omega,hnx g3⟩
 ·rintro vs L - ⟨rfl,rfl,hlt,hI⟩
  simp only[go_sem]
  refine Wk ?_
  refine ret_eq ?_;simp only[go_sem]
  rw[hyes (fun j hj=>hI j hj hj) (by omega) (by
   rcases hlt with h0|hlt
   ·exact .inr (List.length_eq_zero_iff.1 h0)
   ·rw[List.take_length] at hlt;left;omega)]
  congr 1
def smlB (t:Pd):Bool:=decide (dpF t≤40) && decide (szF t<250)
theorem sml_size {t:Pd} (h:smlB t=true):szF t≤1000000:=by
 unfold smlB at h
 simp only[Bool.and_eq_true,decide_eq_true_eq] at h
 omega
theorem law30_small (t:Pd):PC Proofs.Tryz.prog 6 [aPd t] (ab (smlB t)):=by
 have h1:=law30_nodes t 250 1 (by decide) (by decide) (by decide) (by decide)
 have h2:ndsF t 250 1=if (dpF t:Int)+1≤41∧(szF t:Int)<250 then (szF t:Int) else 250:=rfl
 have hz:=szF_pos t
 have hsp:smlB t=(decide (dpF t≤40) && decide (szF t<250)):=rfl
 have h3:t.l.length<szF t:=by
  cases t
  rename_i l
  have:=szL_len l
  rw[szF]
  show l.length<_
  omega
 generalize hS:smlB t=S at *
 generalize ndsF t 250 1=c at *
 generalize szF t=z at *
 generalize dpF t=dd at *
 obtain⟨k,n,p,q,s,l⟩:=t
 simp only[aPd_mk,Pd.l] at *
 refine PC.enter 12 [.tmp 2] [1] Proofs.Tryz.func6 rfl rfl rfl rfl rfl (by simp) (AWp.of ?_);simp only[go_sem]
 refine Wk ?_
 refine Sd ?_
 refine Gc h1 ?_
 refine Sd ?_
 refine Wk ?_
 refine ret_eq ?_;simp only[go_sem]
 rw[hsp,h2]
 congr 2
 by_cases e:(dd:Int)+1≤41∧(z:Int)<250
 ·rw[if_pos e,decide_eq_true (show (l.length:Int)<250 by omega),decide_eq_true e.2,decide_eq_true (show dd≤40 by omega),decide_eq_true (show z<250 by omega)]
 ·rw[if_neg e,show decide ((250:Int)<250)=false from rfl,Bool.and_false]
  by_cases e2:dd≤40
  ·rw[decide_eq_false (show ¬z<250 by omega),Bool.and_false]
  ·rw[decide_eq_false e2,Bool.false_and]
def nngB:Pd→Bool | .mk k _ _ _ _ _=>decide (¬k=15)
end Go.AL
end
