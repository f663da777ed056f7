/- Texts of this claim's proof: WV22, WV23, WV24. No condition. -/
import Derived.Test.YtaomlpmcimjfgaaGreatDoorM22
import Derived.Test.YtaomlpmcimjfgaaGreatDoorM23
import Derived.Test.YtaomlpmcimjfgaaGreatDoorM13
import Derived.Test.YtaomlpmcimjfgaaGreatDoorM16
section
namespace Go.AL
open Go Go.RowKit
set_option maxRecDepth 4000
theorem bools_index (bs:List Bool) (hl:bs.length≤1000001):PC Proofs.Tryz.prog 97 [.sl 1 (bs.map ab),ab false] (ai (match bs.findIdx? (fun x => !x) with|some i=>(i:Int)|none => -1)):=by
 refine PC.enter 19 [.tmp 4] [] Proofs.Tryz.func97 rfl rfl rfl rfl rfl (by simp) (AWp.of ?_);simp only[go_sem]
 refine Wk ?_
 refine(AWp.range' bs.length [] [0,1,7] (fun k vs L=>L=[]∧∀i (h:i<bs.length),i<k→bs[i]=true) (by omega) rfl rfl rfl ⟨rfl,fun _ _ h=>by omega⟩ ?_ ?_)
 ·rintro k vs L hk - ⟨rfl,hI⟩
  have hg:=getD_map (f:=ab) hk
  have hx:bs[k]=false→bs.findIdx? (fun x => !x)=some k:=fun h=>by
   rw[List.findIdx?_eq_some_iff_getElem];exact⟨hk,by rw[h];rfl,fun j hj=>by rw[hI j (by omega) hj];decide⟩
  have hI2:bs[k]=true→∀i (h:i<bs.length),i<k+1→bs[i]=true:=fun h i hi hik=>by
   by_cases e:i=k
   ·subst e;exact h
   ·exact hI i hi (by omega)
  generalize bs[k]=B at *
  simp only[go_sem]
  cases B with
  | true =>
   repeat(first|((with_reducible refine AWp.ofC ?_ ?_);exact rfl;simp only[go_sem,hg])|((with_reducible refine an ?_ ?_);exact Au))
   exact⟨_,List.Sublist.refl _,rfl,hI2 rfl⟩
  | false =>
   rw[hx rfl]
   repeat(first|((with_reducible refine AWp.ofC ?_ ?_);exact rfl;simp only[go_sem,hg])|((with_reducible refine an ?_ ?_);exact Au))
   refine ret_eq ?_;simp only[go_sem]
 ·rintro vs L - ⟨rfl,hI⟩
  have:bs.findIdx? (fun x => !x)=none:=by rw[List.findIdx?_eq_none_iff];intro x hx;obtain⟨i,hi,rfl⟩:=List.getElem_of_mem hx;rw[hI i hi hi];rfl
  rw[this]
  simp only[go_sem]
  refine Wk ?_
  refine ret_eq ?_;simp only[go_sem]
theorem bools_contains (bs:List Bool) (hl:bs.length≤1000001):PC Proofs.Tryz.prog 59 [.sl 1 (bs.map ab),ab false] (ab (bs.any fun x => !x)):=by
 have h1:=bools_index bs hl
 refine PC.enter 9 [.tmp 4] [] Proofs.Tryz.func59 rfl rfl rfl rfl rfl (by simp) (AWp.of ?_);simp only[go_sem]
 refine Wk ?_
 refine Sd ?_
 refine(h1).val.use ?_;simp only[go_sem]
 refine Wk ?_
 refine ret_eq ?_;simp only[go_sem]
 congr 2;exact findIdx_any bs fun x => !x
theorem strong_ascending (ps:List Pr) (hps:ps.length≤1000000) (l:List Spn3) (_hl:l.length≤9223372036854775806):PC Proofs.Tryz.prog 56 [aTr ps,aSps l] (ab (eachB ps l)):=by
 have hR:aSps l = .sl 3 (l.map aSp):=rfl
 have hE:eachB ps l=(decide (l.length=ps.length) && (List.range l.length).all fun i=>decide ((l.getD i (0,0,0)).1=i)):=rfl
 rw[hR]
 generalize eachB ps l=E at *
 by_cases hlp:l.length=ps.length
 ·have hli:(l.length:Int)=ps.length:=by omega
  rw[decide_eq_true hlp,Bool.true_and] at hE
  refine PC.enter 25 [.tmp 4] [2,6] Proofs.Tryz.func56 rfl rfl rfl rfl rfl (by simp) (AWp.of ?_);simp only[go_sem]
  repeat(first|((with_reducible refine AWp.ofC ?_ ?_);exact rfl;simp only[go_sem,hli])|((with_reducible refine an ?_ ?_);exact Au))
  refine(AWp.range' ps.length [] [13,14] (fun k vs L=>L=[]∧∀j,j<k→(l.getD j (0,0,0)).1=j) (by omega) rfl rfl rfl ⟨rfl,fun _ h=>by omega⟩ ?_ ?_)
  ·rintro k vs L hk - ⟨rfl,hI⟩
   have hkl2:k<l.length:=by omega
   have hg:=getD_map (f:=aSp) hkl2
   have hg2:l.getD k (0,0,0)=l[k]:=by rw[List.getD_eq_getElem?_getD,List.getElem?_eq_getElem hkl2,Option.getD_some]
   have ei:aSp l[k] = .agg [ai l[k].1,ai l[k].2.1,ai l[k].2.2]:=rfl
   rw[ei] at hg
   simp only[go_sem]
   by_cases he:l[k].1=(k:Int)
   ·repeat(first|((with_reducible refine AWp.ofC ?_ ?_);exact rfl;simp only[go_sem,hli,hg,he])|((with_reducible refine an ?_ ?_);exact Au))
    intros
    repeat(first|((with_reducible refine AWp.ofC ?_ ?_);exact rfl;simp only[go_sem])|((with_reducible refine an ?_ ?_);exact Au))
    refine⟨_,List.Sublist.refl _,rfl,fun j hj => ?_⟩
    by_cases e:j=k
    ·subst e;rw[hg2];exact he
    ·exact hI j (by omega)
   ·have:E=false:=by
     rw[hE,List.all_eq_false]
     exact⟨k,List.mem_range.2 hkl2,by rw[hg2,decide_eq_true_eq];exact he⟩
    rw[this]
    repeat(first|((with_reducible refine AWp.ofC ?_ ?_);exact rfl;simp only[go_sem,hli,hg])|((with_reducible refine an ?_ ?_);exact Au))
    intros
    repeat(first|((with_reducible refine AWp.ofC ?_ ?_);exact rfl;simp only[go_sem,he])|((with_reducible refine an ?_ ?_);exact Au))
    refine ret_eq ?_;simp only[go_sem]
  ·rintro vs L - ⟨rfl,hI⟩
   have:E=true:=by
    rw[hE,List.all_eq_true]
    intro j hj
    exact decide_eq_true (hI j (by have:=List.mem_range.1 hj;omega))
   rw[this]
   simp only[go_sem]
   repeat(first|((with_reducible refine AWp.ofC ?_ ?_);exact rfl;simp only[go_sem])|((with_reducible refine an ?_ ?_);exact Au))
   refine ret_eq ?_;simp only[go_sem]
 ·have hli:¬(l.length:Int)=ps.length:=by omega
  rw[decide_eq_false hlp,Bool.false_and] at hE
  rw[hE]
  refine PC.enter 25 [.tmp 4] [2,6] Proofs.Tryz.func56 rfl rfl rfl rfl rfl (by simp) (AWp.of ?_);simp only[go_sem]
  repeat(first|((with_reducible refine AWp.ofC ?_ ?_);exact rfl;simp only[go_sem,hli])|((with_reducible refine an ?_ ?_);exact Au))
  refine ret_eq ?_;simp only[go_sem]
def spT (E:Elim) (s:Stp):Bool:=(List.range (s.2.2+1 - s.2.1)).all fun j=>E.ok s.1 (s.2.1+j)
def okB (E:Elim) (p:Nat):List Bool:=(List.range (E.top p+1)).map (E.ok p)
theorem okB_map (E:Elim) (p:Nat):(okB E p).map ab=okL E p:=by unfold okB okL;rw[List.map_map];rfl
theorem okB_part (E:Elim) (s:Stp) (h1:s.2.1≤s.2.2) (h2:s.2.2≤E.top s.1):(((okB E s.1).take (s.2.2+1)).drop s.2.1).any (fun x => !x) = !spT E s:=by
 have e:((okB E s.1).take (s.2.2+1)).drop s.2.1=(List.range (s.2.2+1 - s.2.1)).map fun j=>E.ok s.1 (s.2.1+j):=by
  unfold okB
  apply List.ext_getElem
  ·simp;omega
  ·intro i g1 g2
   simp
 rw[e]
 unfold spT
 rw[Bool.eq_iff_iff,List.any_eq_true]
 constructor
 ·rintro⟨x,hx,h⟩
  obtain⟨j,hj,rfl⟩:=List.mem_map.1 hx
  rw[Bool.not_eq_true',List.all_eq_false]
  exact⟨j,hj,by simpa using h⟩
 ·intro h
  rw[Bool.not_eq_true',List.all_eq_false] at h
  obtain⟨j,hj,h⟩:=h
  exact⟨_,List.mem_map.2 ⟨j,hj,rfl⟩,by simpa using h⟩
theorem strong_Check1 (E:Elim) (hE:SmE E) (s:Stp) (hp:s.1<E.n) (h1:s.2.1≤s.2.2) (h2:s.2.2≤E.top s.1):PC Proofs.Tryz.prog 58 [aStp s,.rp 1 [.sl 1 (okM E)] 0 0] (ab (!spT E s)):=by
 have ht:=hE.top s.1
 have hg:=okM_get (E:=E) hp
 rw[← okB_map] at hg
 have hml:=okM_len E
 have hbl:((okB E s.1).map ab).length=E.top s.1+1:=by rw[List.length_map];simp [okB]
 have hn:=hE.n
 have hb2:(okB E s.1).length=E.top s.1+1:=by simp [okB]
 have hc:=bools_contains (((okB E s.1).take (s.2.2+1)).drop s.2.1) (by rw[List.length_drop,List.length_take,hb2];omega)
 rw[okB_part E s h1 h2,List.map_drop,List.map_take] at hc
 have hR:aStp s = .agg [ai s.1,ai s.2.1,ai s.2.2]:=rfl
 have e1:((s.2.2:Int)+1).toNat=s.2.2+1:=by omega
 rw[hR]
 generalize spT E s=B at *
 generalize (okB E s.1).map ab=BS at *
 generalize okM E=M at *
 generalize s.1=p at *
 generalize s.2.1=f at *
 generalize s.2.2=t at *
 refine PC.enter 16 [.tmp 3] [2] Proofs.Tryz.func58 rfl rfl rfl rfl rfl (by simp) (AWp.of ?_);simp only[go_sem]
 refine Wk ?_
 repeat(first|(with_reducible refine AWp.seq ?_)|(with_reducible refine AWp.block ?_))
 refine AWp.read mixed [0,1,2,3,4,5,6,7,8,9,10,11,12] (by kernel_rfl) ?_;simp only[go_sem,hg,hml,hbl,e1]
 refine Sd ?_
 refine Sd ?_
 refine GCall.use (ab (!B)) (fun _=>⟨At,(hc).val.use ⟨rfl,rfl⟩⟩) ?_;simp only[go_sem]
 refine Sd ?_
 refine Wk ?_
 refine ret_eq ?_;simp only[go_sem]
theorem strong_Check2 (ps:List Pr) (hs:Sm ps) (E:Elim) (_hE:SmE E) (hn:E.n=ps.length) (ht:∀p,p<ps.length→E.top p=nev ps p) (c:List Int) (hc:isF ps c=true):PC Proofs.Tryz.prog 61 [aInts c,.rp 1 [.sl 1 (okM E)] 0 0] (ab (satG ps E c)):=by
 obtain⟨hl,hr,_⟩:=isF_iff.1 hc
 have hr:=(inRange_iff hl).1 hr
 have hml:=okM_len E
 have hps:=hs.procs
 have hS:satG ps E c=((List.range c.length).all fun p=>E.ok p (cAt c p).toNat):=by unfold satG;rw[hc,Bool.true_and]
 have hrow:=fun p (hp:p<E.n)=>okM_get (E:=E) hp
 generalize satG ps E c=S at *
 generalize okM E=M at *
 refine PC.enter 22 [.tmp 3] [] Proofs.Tryz.func61 rfl rfl rfl rfl rfl (by simp) (AWp.of ?_);simp only[go_sem]
 refine Wk ?_
 refine(AWp.range' c.length [] [1,6,7] (fun k vs L=>L=[]∧∀j,j<k→E.ok j (cAt c j).toNat=true) (by omega) rfl rfl rfl ⟨rfl,fun _ h=>by omega⟩ ?_ ?_)
 ·rintro k vs L hk - ⟨rfl,hI⟩
  have hkp:k<ps.length:=by omega
  have hg:=getD_map (f:=ai) hk
  rw[← cAt_nat hk] at hg
  have hro:=hrow k (by omega)
  have hck:=hr k hkp
  have htk:=ht k hkp
  rw[← nev_get hkp] at hck
  have hgo:(okL E k).getD (cAt c k).toNat .any=ab (E.ok k (cAt c k).toNat):=map_range_getD (show (cAt c k).toNat<E.top k+1 by omega) _
  have hol:=okL_len E k
  have hI2:E.ok k (cAt c k).toNat=true→∀j,j<k+1→E.ok j (cAt c j).toNat=true:=fun h j hj=>by
   by_cases e:j=k
   ·subst e;exact h
   ·exact hI j (by omega)
  have hno:E.ok k (cAt c k).toNat=false→S=false:=fun h=>by
   rw[hS,List.all_eq_false]
   exact⟨k,List.mem_range.2 hk,by rw[h];decide⟩
  generalize E.ok k (cAt c k).toNat=B at *
  generalize okL E k=O at *
  generalize cAt c k=z at *
  simp only[go_sem]
  cases B with
  | true =>
   repeat(first|((with_reducible refine AWp.ofC ?_ ?_);exact rfl;simp only[go_sem,hg,hro,hgo,hml,hol])|((with_reducible refine an ?_ ?_);exact Au))
   exact⟨_,List.Sublist.refl _,rfl,hI2 rfl⟩
  | false =>
   rw[hno rfl]
   repeat(first|((with_reducible refine AWp.ofC ?_ ?_);exact rfl;simp only[go_sem,hg,hro,hgo,hml,hol])|((with_reducible refine an ?_ ?_);exact Au))
   refine ret_eq ?_;simp only[go_sem]
 ·rintro vs L - ⟨rfl,hI⟩
  have:S=true:=by
   rw[hS,List.all_eq_true]
   exact fun j hj=>hI j (List.mem_range.1 hj)
  rw[this]
  simp only[go_sem]
  refine Wk ?_
  refine ret_eq ?_;simp only[go_sem]
noncomputable def chk38 (ps:List Pr) (ts:List Pd) (a:Ans):Bool :=
 if conF ps ts=0 then (if a.holds=true then (bareB a 4 && eachB ps a.spans) && ((decide (gvnE ps a.spans=0) && ovF ps (a.spans.map spN)) && (a.spans.map spN).all (spT (elimOf ps ts))) else bareB a 3 && avdB ps ts a.run) else false
theorem strong_Check_bad {ps:List Pr} (hva:PC Proofs.Tryz.prog 72 [aTr ps] (ab false)) (ts:List Pd) (htl:ts.length≤9223372036854775807) (a:Ans):PC Proofs.Tryz.prog 21 [aTr ps,.sl 6 (ts.map aPd),aAns a] (ab false):=by
 have h1:=strong_truths_bad hva ts htl
 obtain⟨m,h,kd,c,cs,r,sp,v⟩:=a
 have hA:aAns ⟨m,h,kd,c,cs,r,sp,v⟩ = .agg [ai m,ab h,ai kd,.sl 1 (c.map ai),.sl 1 (cs.map aInts),.sl 1 (r.map aInts),.sl 3 (sp.map aSp),ai v]:=rfl
 rw[hA]
 refine PC.enter 122 [.tmp 6] [3,5,11,62] Proofs.Tryz.func21 rfl rfl rfl rfl rfl (by simp) (AWp.of ?_);simp only[go_sem]
 refine Wk ?_
 refine Sd ?_
 refine(h1).val.use ?_;simp only[go_sem]
 repeat(first|((with_reducible refine AWp.ofC ?_ ?_);exact rfl;simp only[go_sem,Int.reduceEq])|((with_reducible refine an ?_ ?_);exact Au))
 refine ret_eq ?_;simp only[go_sem]
theorem strong_Check_err (ps:List Pr) (hs:Sm ps) (ts:List Pd) (hz:∀t ∈ ts,szF t≤1000000) (htl:ts.length≤1000000) (hC:conF ps ts ≠ 0) (a:Ans):PC Proofs.Tryz.prog 21 [aTr ps,.sl 6 (ts.map aPd),aAns a] (ab false):=by
 have h1:=strong_truths ps hs ts hz htl
 unfold aTruR at h1
 rw[if_neg hC] at h1
 obtain⟨m,h,kd,c,cs,r,sp,v⟩:=a
 have hA:aAns ⟨m,h,kd,c,cs,r,sp,v⟩ = .agg [ai m,ab h,ai kd,.sl 1 (c.map ai),.sl 1 (cs.map aInts),.sl 1 (r.map aInts),.sl 3 (sp.map aSp),ai v]:=rfl
 rw[hA]
 generalize conF ps ts=e at *
 refine PC.enter 122 [.tmp 6] [3,5,11,62] Proofs.Tryz.func21 rfl rfl rfl rfl rfl (by simp) (AWp.of ?_);simp only[go_sem]
 repeat(first|((with_reducible refine AWp.ofC ?_ ?_);exact rfl;simp only[go_sem])|((with_reducible refine an ?_ ?_);exact Au))
 refine Sd ?_
 refine(h1).val.use ?_;simp only[go_sem]
 repeat(first|((with_reducible refine AWp.ofC ?_ ?_);exact rfl;simp only[go_sem,hC])|((with_reducible refine an ?_ ?_);exact Au))
 refine ret_eq ?_;simp only[go_sem]
set_option maxHeartbeats 1000000 in
theorem strong_Check (ps:List Pr) (hs:Sm ps) (ts:List Pd) (hz:∀t ∈ ts,szF t≤1000000) (htl:ts.length≤1000000) (hC:conF ps ts=0) (a:Ans) (hsp:a.spans.length≤1000000) (hrl:a.run.length≤1000000) (hrx:∀x ∈ a.run,x.length≤1000000) :
  PC Proofs.Tryz.prog 21 [aTr ps,.sl 6 (ts.map aPd),aAns a] (ab (chk38 ps ts a)):=by
 obtain⟨hv,hl,hlc⟩:=conF_inv hC
 obtain⟨hn1,hn8⟩:=valid_len hv
 have hE:=elim_sm hs ts
 have h1:=strong_truths ps hs ts hz htl
 have htr:∀p (hp:p<ts.length),PC Proofs.Tryz.prog 55 [aTr ps,ai p,aPd ts[p]] (.tup [.sl 1 (okL (elimOf ps ts) p),ai 0]):=fun p hp=>by
  have h:=evaluate_Truths ps hs p ts[p] (hz _ (List.getElem_mem hp))
  unfold aTruths at h
  rw[if_pos (hlc p hp),Int.toNat_natCast,truths_row hp (by omega)] at h
  exact h
 have hEn:(elimOf ps ts).n=ps.length:=rfl
 unfold aTruR at h1
 rw[if_pos hC] at h1
 have hR:aRowsS ps ps.length (rowsOf ps ts) = .sl 1 (rowsK ps (rowsOf ps ts) ps.length):=rfl
 rw[hR] at h1
 generalize rowsK ps (rowsOf ps ts) ps.length=RW at *
 obtain⟨m,h,kd,c,cs,r,sp,v⟩:=a
 have hA:aAns ⟨m,h,kd,c,cs,r,sp,v⟩ = .agg [ai m,ab h,ai kd,.sl 1 (c.map ai),.sl 1 (cs.map aInts),.sl 1 (r.map aInts),.sl 3 (sp.map aSp),ai v]:=rfl
 rw[hA]
 have hck:chk38 ps ts ⟨m,h,kd,c,cs,r,sp,v⟩=(if h=true then (bareB ⟨m,h,kd,c,cs,r,sp,v⟩ 4 && eachB ps sp) && ((decide (gvnE ps sp=0) && ovF ps (sp.map spN)) && (sp.map spN).all (spT (elimOf ps ts))) else bareB ⟨m,h,kd,c,cs,r,sp,v⟩ 3 && avdB ps ts r):=by
  unfold chk38;rw[if_pos hC]
 by_cases hz0:m=2∧c=[]∧cs=[]∧v=0
 ·obtain⟨rfl,rfl,rfl,rfl⟩:=hz0
  have hEk:∀p,okK (elimOf ps ts) (p+1)=okK (elimOf ps ts) p ++ [.sl 1 (okL (elimOf ps ts) p)]:=okK_succ _
  have hfin:okK (elimOf ps ts) ts.length=okM (elimOf ps ts):=by unfold okK okM;rw[hEn,hl]
  refine PC.enter 122 [.tmp 6] [3,5,11,62] Proofs.Tryz.func21 rfl rfl rfl rfl rfl (by simp) (AWp.of ?_);simp only[go_sem]
  refine Wk ?_
  have z0:¬(0:Int)<((0:Nat):Int):=by decide
  refine Sd ?_
  refine(h1).val.use ?_;simp only[go_sem]
  repeat(first|((with_reducible refine AWp.ofC ?_ ?_);exact rfl;simp only[go_sem,z0])|((with_reducible refine an ?_ ?_);exact Au))
  intro b9
  refine Wk ?_
  refine(AWp.range' ts.length [] [3,5,9,46,47] (fun p vs L=>∃w Lq,L=Lq ++ [(b9,.row 102 1 [w] 1)]∧AppSt 103 1 (okK (elimOf ps ts) p) w Lq∧∀x ∈ Lq,x.1 ≠ b9) (by omega) rfl rfl rfl ⟨anil,[],rfl,.nil,by simp⟩ ?_ ?_)
  ·rintro p vs L hp - ⟨w,Lq,rfl,hAp,hq⟩
   have hg:=getD_map (f:=aPd) hp
   have ht:=htr p hp
   have hyl:=okK_len (elimOf ps ts) p
   rw[hEk]
   have hfo:=hAp.fo
   generalize okL (elimOf ps ts) p=ol at *
   generalize okK (elimOf ps ts) p=ys at *
   generalize ts[p]=t at *
   obtain⟨k0,n,pp,q0,s,l⟩:=t
   simp only[aPd_mk] at hg ht
   rcases hAp.inv with ⟨e1,rfl,rfl⟩|⟨bq,cap,rfl,rfl⟩
   ·simp only[go_sem,List.nil_append]
    repeat(first|((with_reducible refine AWp.ofC ?_ ?_);exact rfl;simp only[go_sem,hg])|((with_reducible refine an ?_ ?_);exact Au))
    intros
    refine Wk ?_
    refine Sd ?_
    refine(ht).val.use ?_;simp only[go_sem]
    refine Wk ?_
    intro b' cap' g8 g9
    have n3:¬b'=b9:=by omega
    have n4:¬b9=b':=by omega
    simp only[go_sem,n4]
    refine⟨_,List.Sublist.refl _,.ls b' 1 0 1 cap',[(b',.row 103 1 (ys ++ [.sl 1 ol]) cap')],?_,?_,?_⟩
    ·rw[e1];rfl
    ·rw[e1];exact .row _ _ _
    ·intro y hy;simp only[List.mem_singleton] at hy;subst hy;exact n3
   ·have nq:=hq (bq,.row 103 1 ys cap) (by simp)
    simp only at nq
    have nq1:¬b9=bq:=fun e=>nq e.symm
    simp only[go_sem,List.cons_append,List.nil_append]
    repeat(first|((with_reducible refine AWp.ofC ?_ ?_);exact rfl;simp only[go_sem,hg])|((with_reducible refine an ?_ ?_);exact Au))
    intros
    repeat(first|((with_reducible refine AWp.ofC ?_ ?_);exact rfl;simp only[go_sem])|((with_reducible refine an ?_ ?_);exact Au))
    refine Sd ?_
    refine(ht).val.use ?_;simp only[go_sem]
    repeat(first|((with_reducible refine AWp.ofC ?_ ?_);exact rfl;simp only[go_sem,nq,nq1])|((with_reducible refine an ?_ ?_);exact Au))
    intro b' cap' g8 g9
    have n3:¬b'=b9:=by omega
    have n4:¬b9=b':=by omega
    simp only[go_sem,n4]
    refine⟨_,List.Sublist.refl _,.ls b' 1 0 (ys.length+1) cap',[(b',.row 103 1 (ys ++ [.sl 1 ol]) cap')],rfl,?_,?_⟩
    ·exact AppSt.snoc b' cap' _ rfl
    ·intro y hy;simp only[List.mem_singleton] at hy;subst hy;exact n3
  ·rintro vs L - ⟨w,Lq,rfl,hAp,hq⟩
   rw[hfin] at hAp
   have hfo:=hAp.fo
   have hml:=okM_len (elimOf ps ts)
   rcases hAp.inv with ⟨e1,rfl,rfl⟩|⟨bq,cap,rfl,rfl⟩
   ·rw[e1] at hml
    have:0=ps.length:=hml
    omega
   have nq:=hq (bq,.row 103 1 (okM (elimOf ps ts)) cap) (by simp)
   simp only at nq
   have nq1:¬b9=bq:=fun e=>nq e.symm
   have hvw:Vw [(bq,.row 103 1 (okM (elimOf ps ts)) cap),(b9,.row 102 1 [.ls bq 1 0 (okM (elimOf ps ts)).length cap] 1)] (.lp b9 1 0 0) (.rp 1 [.sl 1 (okM (elimOf ps ts))] 0 0):=by
    generalize hL0:[(bq,ABlk.row 103 1 (okM (elimOf ps ts)) cap),(b9,ABlk.row 102 1 [.ls bq 1 0 (okM (elimOf ps ts)).length cap] 1)]=L0
    have q1:lk L0 b9=some (.row 102 1 [.ls bq 1 0 (okM (elimOf ps ts)).length cap] 1):=by rw[← hL0];simp only[lk,nq1,if_false,if_true]
    have q2:lk L0 bq=some (.row 103 1 (okM (elimOf ps ts)) cap):=by rw[← hL0];simp only[lk,if_true]
    exact .lp q1 rfl (Vws.cons (Vw.ofLs q2 rfl) .nil).2
   simp only[go_sem,List.cons_append,List.nil_append]
   refine AWp.viewP (Lf:=[(bq,.row 103 1 (okM (elimOf ps ts)) cap),(b9,.row 102 1 [.ls bq 1 0 (okM (elimOf ps ts)).length cap] 1)]) (Lk:=[]) (L':=[]) (List.Perm.refl _) .nil [(9,.rp 1 [.sl 1 (okM (elimOf ps ts))] 0 0)] (fun z hz => ?_) ?_
   ·obtain rfl:=List.mem_singleton.1 hz
    exact hvw
   clear hvw hfo hAp hq nq nq1 hfin hEk h1 htr
   simp only[go_sem]
   have hSm:SmE (elimOf ps ts):=hE
   have hlt:(okM (elimOf ps ts)).length=ps.length:=hml
   cases h with
   | true =>
    have hb4:bareB ⟨2,true,kd,[],[],r,sp,0⟩ 4=(decide (kd=4) && decide (r=[])):=by simp [bareB]
    rw[hb4,if_pos rfl] at hck
    have hasc:=strong_ascending ps hs.procs sp (by have:sp.length≤1000000:=hsp;omega)
    have hov:=strong_Overlap ps hs sp (by have:sp.length≤1000000:=hsp;omega)
    have hgz:=fun hgz=>gvn_zero (ps:=ps) (l:=sp) hgz
    have hR:aSps sp = .sl 3 (sp.map aSp):=rfl
    have hcf:gvnE ps sp=0→PC Proofs.Tryz.prog 57 [.sl 3 (sp.map aSp),.clo 58 [.rp 1 [.sl 1 (okM (elimOf ps ts))] 0 0]] (ab (sp.any fun s => !spT (elimOf ps ts) (spN s))):=fun h=>by
     have hbd:=(hgz h).2.2.1
     exact spans_containsFuncB sp (by have:sp.length≤1000000:=hsp;omega) _ rfl (fun s => !spT (elimOf ps ts) (spN s)) fun s hs'=>by
      obtain⟨b1,b2,_⟩:=bad_not (hbd s hs')
      rw[b2]
      exact(strong_Check1 (elimOf ps ts) hSm (spN s) b1.1 b1.2.1 b1.2.2).clo
    have hall:(!sp.any fun s => !spT (elimOf ps ts) (spN s))=(sp.map spN).all (spT (elimOf ps ts)):=by
     rw[List.all_map,List.not_any_eq_all_not]
     congr 1;funext s
     simp
    rw[hR] at hasc hov
    rw[← hall] at hck
    clear hall hgz
    generalize sp.any (fun s => !spT (elimOf ps ts) (spN s))=AN at *
    generalize eachB ps sp=EA at *
    generalize ovF ps (sp.map spN)=OV at *
    generalize gvnE ps sp=G at *
    generalize chk38 ps ts ⟨2,true,kd,[],[],r,sp,0⟩=CK at *
    refine Wk ?_
    refine Sd ?_
    refine GCall.use (ab EA) (fun _=>⟨At,(hasc).val.use ⟨rfl,rfl⟩⟩) ?_;simp only[go_sem]
    refine Sd ?_
    refine Wk ?_
    refine⟨fun g => ?_,fun g1 g2 g3 => ?_⟩
    ·have:CK=false:=by
      rw[hck]
      rcases g with (g|g)|g
      ·rw[decide_eq_false g];rfl
      ·have:r ≠ []:=fun e=>by subst e;simp at g
       rw[decide_eq_false this];simp
      ·rw[g];simp
     rw[this]
     refine Wk ?_
     refine ret_eq ?_;simp only[go_sem]
    ·have hr0:r=[]:=by
      cases r with
      | nil=>rfl
      | cons x y=>simp at g2
     subst hr0
     rw[g1,g3] at hck
     refine Wk ?_
     refine Sd ?_
     refine(hov).val.use ?_;simp only[go_sem]
     refine Wk ?_
     refine⟨fun q => ?_,fun q1 q2 q3 => ?_⟩
     ·have:CK=false:=by
       rw[hck]
       by_cases hG:G=0
       ·rcases q with q|q
        ·exact absurd hG q
        ·rw[q hG];simp
       ·rw[decide_eq_false hG];rfl
      rw[this]
      refine Wk ?_
      refine ret_eq ?_;simp only[go_sem]
     ·have hcf:=hcf q1
      rw[q1,q3] at hck
      have:CK = !AN:=by rw[hck];simp
      rw[this]
      refine Wk ?_
      refine Sd ?_
      refine(hcf).val.use ?_;simp only[go_sem]
      refine Wk ?_
      refine ret_eq ?_;simp only[go_sem]
   | false =>
    have hb3:bareB ⟨2,false,kd,[],[],r,sp,0⟩ 3=(decide (kd=3) && decide (sp=[])):=by simp [bareB]
    rw[hb3,if_neg (by decide)] at hck
    have hri:=run_Is ps hs r hrl hrx
    have hR:aRows r = .sl 1 (r.map aInts):=rfl
    have hAv:avdB ps ts r=(isR ps r && r.all fun c => !satG ps (elimOf ps ts) c):=rfl
    have hcf:isR ps r=true→PC Proofs.Tryz.prog 24 [.sl 1 (r.map aInts),.clo 61 [.rp 1 [.sl 1 (okM (elimOf ps ts))] 0 0]] (ab (r.any (satG ps (elimOf ps ts)))):=fun h=>by
     have hru:isRunF ps r=true:=by unfold isR at h;rw[hv,Bool.true_and] at h;exact h
     refine rows_containsFunc r hrl _ rfl (satG ps (elimOf ps ts)) fun c hc=>(strong_Check2 ps hs (elimOf ps ts) hSm rfl (fun _ _=>rfl) c ?_).clo
     obtain⟨R,rfl,hch,_⟩:=isrun_inv hru
     rcases List.mem_cons.1 hc with rfl|hc
     ·exact zeroC_is ps
     ·obtain⟨j,hj,rfl⟩:=List.getElem_of_mem hc
      exact(chn_iff.1 hch j hj).1
    have hall:(r.all fun c => !satG ps (elimOf ps ts) c) = !r.any (satG ps (elimOf ps ts)):=(List.not_any_eq_all_not ..).symm
    rw[hAv,hall] at hck
    rw[hR] at hri
    clear hall hAv
    generalize r.any (satG ps (elimOf ps ts))=AN at *
    generalize isR ps r=IR at *
    generalize chk38 ps ts ⟨2,false,kd,[],[],r,sp,0⟩=CK at *
    refine Wk ?_
    refine Sd ?_
    refine GCall.use (ab IR) (fun _=>⟨At,(hri).val.use ⟨rfl,rfl⟩⟩) ?_;simp only[go_sem]
    refine Sd ?_
    refine Wk ?_
    refine⟨fun g => ?_,fun g1 g2 g3 => ?_⟩
    ·have:CK=false:=by
      rw[hck]
      rcases g with (g|g)|g
      ·rw[decide_eq_false g];rfl
      ·have:sp ≠ []:=fun e=>by subst e;simp at g
       rw[decide_eq_false this];simp
      ·rw[g];simp
     rw[this]
     refine Wk ?_
     refine ret_eq ?_;simp only[go_sem]
    ·have hs0:sp=[]:=by
      cases sp with
      | nil=>rfl
      | cons x y=>simp at g2
     have hcf:=hcf g3
     rw[g1,g3,hs0] at hck
     have:CK = !AN:=by rw[hck];simp
     rw[this]
     refine Wk ?_
     refine Sd ?_
     refine(hcf).val.use ?_;simp only[go_sem]
     refine Wk ?_
     refine ret_eq ?_;simp only[go_sem]
 ·have hb:∀k,bareB ⟨m,h,kd,c,cs,r,sp,v⟩ k=false:=fun k=>by
   cases hb:bareB ⟨m,h,kd,c,cs,r,sp,v⟩ k with
   | false=>rfl
   | true =>
    exfalso
    apply hz0
    unfold bareB at hb
    simp only[Bool.and_eq_true,decide_eq_true_eq] at hb
    exact⟨hb.1,hb.2.2.1,hb.2.2.2.1,hb.2.2.2.2.1⟩
  have hf:chk38 ps ts ⟨m,h,kd,c,cs,r,sp,v⟩=false:=by rw[hck,hb,hb];cases h <;> rfl
  rw[hf]
  refine PC.enter 122 [.tmp 6] [3,5,11,62] Proofs.Tryz.func21 rfl rfl rfl rfl rfl (by simp) (AWp.of ?_);simp only[go_sem]
  refine Wk ?_
  refine Sd ?_
  refine(h1).val.use ?_;simp only[go_sem]
  refine Wk ?_
  refine⟨fun g => ?_,fun g1 g2 g3 g4 => ?_⟩
  ·refine Wk ?_
   refine ret_eq ?_;simp only[go_sem]
  ·exfalso
   refine hz0 ⟨g1,?_,?_,?_⟩
   ·cases c with
    | nil=>rfl
    | cons x y=>simp at g2
   ·cases cs with
    | nil=>rfl
    | cons x y=>simp at g3
   ·simpa using g4
theorem ref29_ok (ps:List Pr) (hs:Sm ps) (ts:List Pd) (hz:∀t ∈ ts,szF t≤1000000) (hf:conF ps ts=0) (p:Nat) (hp:p<ps.length) (hpt:p<ts.length) (k:Nat) (hk:k≤ps[p].evs.length):PC Proofs.Tryz.prog 63 [aTr ps,ai p,ai (k:Nat),aPd ts[p]] (ab ((elimOf ps ts).ok p k)):=by
 obtain⟨hv,htn,hlc⟩:=conF_inv hf
 obtain⟨c1,_,_,_,c5,c6⟩:=lcl_ok (hlc p hpt)
 have h:=ref29_Local ps hs p k hp hk ts[p] (hz _ (List.getElem_mem hpt)) c1 c5 c6
 have hok:(elimOf ps ts).ok p k=lclT ps p ts[p] k:=by show (match ts[p]? with|some t=>lclT ps p t k|none=>true)=_;rw[List.getElem?_eq_getElem hpt]
 rw[hok];exact h
theorem ref38_Check_err {ps:List Pr} {ts:List Pd} {e:Int} (he:e ≠ 0) (hft:PC Proofs.Tryz.prog 12 [aTr ps,.sl 6 (ts.map aPd)] (ai e)) (a:Ans):PC Proofs.Tryz.prog 22 [aTr ps,.sl 6 (ts.map aPd),aAns a] (ab false):=by
 obtain⟨m,h,kd,c,cs,r,sp,v⟩:=a
 have hA:aAns ⟨m,h,kd,c,cs,r,sp,v⟩ = .agg [ai m,ab h,ai kd,.sl 1 (c.map ai),.sl 1 (cs.map aInts),.sl 1 (r.map aInts),.sl 3 (sp.map aSp),ai v]:=rfl
 rw[hA]
 refine PC.enter 82 [.tmp 6] [3,5] Proofs.Tryz.func22 rfl rfl rfl rfl rfl (by simp) (AWp.of ?_);simp only[go_sem]
 repeat(first|((with_reducible refine AWp.ofC ?_ ?_);exact rfl;simp only[go_sem])|((with_reducible refine an ?_ ?_);exact Au))
 refine Sd ?_
 refine(hft).val.use ?_;simp only[go_sem,he]
 repeat(first|((with_reducible refine AWp.ofC ?_ ?_);exact rfl;simp only[go_sem])|((with_reducible refine an ?_ ?_);exact Au))
 refine ret_eq ?_;simp only[go_sem]
set_option maxHeartbeats 1000000 in
theorem ref38_Check (ps:List Pr) (hs:Sm ps) (ts:List Pd) (hz:∀t ∈ ts,szF t≤1000000) (htl:ts.length≤1000000) (hC:conF ps ts=0) (a:Ans) (hsp:a.spans.length≤1000000) (hrl:a.run.length≤1000000) (hrx:∀x ∈ a.run,x.length≤1000000) :
  PC Proofs.Tryz.prog 22 [aTr ps,.sl 6 (ts.map aPd),aAns a] (ab (chk38 ps ts a)):=by
 have hft:=ref37_Fault ps hs ts hz htl
 rw[hC] at hft
 have hlo:=ref29_ok ps hs ts hz hC
 obtain⟨hv,hl,_⟩:=conF_inv hC
 have hck:chk38 ps ts a=(if a.holds=true then (bareB a 4 && eachB ps a.spans) && ((decide (gvnE ps a.spans=0) && ovF ps (a.spans.map spN)) && (a.spans.map spN).all (spT (elimOf ps ts))) else bareB a 3 && avdB ps ts a.run):=by
  unfold chk38;rw[if_pos hC]
 have hb3:=ref38_Bare a 3
 have hb4:=ref38_Bare a 4
 have hav:=ref38_Avoids ps hs ts hz htl hC a.run hrl hrx
 have hea:=ref38_Each ps hs.procs a.spans (by omega)
 have hov:=ref38_Overlap ps hs a.spans (by omega)
 have hgz:=fun h=>gvn_zero (ps:=ps) (l:=a.spans) h
 have hez:eachB ps a.spans=true→a.spans.length=ps.length∧∀i (hi:i<a.spans.length),a.spans[i].1=i:=fun h=>by
  unfold eachB at h
  rw[Bool.and_eq_true,decide_eq_true_eq,List.all_eq_true] at h
  refine⟨h.1,fun i hi => ?_⟩
  have:=h.2 i (List.mem_range.2 hi)
  rw[decide_eq_true_eq,List.getD_eq_getElem?_getD,List.getElem?_eq_getElem hi,Option.getD_some] at this
  exact this
 obtain⟨m,h,kd,c,cs,r,sp,v⟩:=a
 have hA:aAns ⟨m,h,kd,c,cs,r,sp,v⟩ = .agg [ai m,ab h,ai kd,.sl 1 (c.map ai),.sl 1 (cs.map aInts),.sl 1 (r.map aInts),.sl 3 (sp.map aSp),ai v]:=rfl
 have hR1:aRows r = .sl 1 (r.map aInts):=rfl
 have hR2:aSps sp = .sl 3 (sp.map aSp):=rfl
 simp only at hck hav hea hov hgz hez hsp
 rw[hR1] at hav
 rw[hR2] at hea hov
 rw[hA] at hb3 hb4 ⊢
 clear hA hR1 hR2
 generalize bareB ⟨m,h,kd,c,cs,r,sp,v⟩ 3=B3 at *
 generalize bareB ⟨m,h,kd,c,cs,r,sp,v⟩ 4=B4 at *
 generalize chk38 ps ts ⟨m,h,kd,c,cs,r,sp,v⟩=CK at *
 cases h with
 | false =>
  rw[if_neg (by decide)] at hck
  generalize avdB ps ts r=AV0 at *
  refine PC.enter 82 [.tmp 6] [3,5] Proofs.Tryz.func22 rfl rfl rfl rfl rfl (by simp) (AWp.of ?_);simp only[go_sem]
  refine Wk ?_
  refine Sd ?_
  refine(hft).val.use ?_;simp only[go_sem]
  refine Wk ?_
  refine Sd ?_
  refine(hb3).val.use ?_;simp only[go_sem]
  refine Sd ?_
  refine GCall.use (ab AV0) (fun _=>⟨At,(hav).val.use ⟨rfl,rfl⟩⟩) ?_;simp only[go_sem]
  refine Sd ?_
  refine Wk ?_
  refine ret_eq ?_;simp only[go_sem]
  rw[hck]
 | true =>
  rw[if_pos rfl] at hck
  generalize hEA:eachB ps sp=EA at *
  generalize ovF ps (sp.map spN)=OV at *
  by_cases hBE:(B4 && EA)=true
  ·rw[Bool.and_eq_true] at hBE
   obtain⟨rfl,rfl⟩:=hBE
   obtain⟨hspl,hsi⟩:=hez rfl
   by_cases hGO:gvnE ps sp=0∧OV=true
   ·obtain⟨hG,rfl⟩:=hGO
    have hbd:=(hgz hG).2.2.1
    rw[hG] at hov hck
    rw[decide_eq_true rfl,Bool.true_and,Bool.true_and,Bool.true_and] at hck
    refine PC.enter 82 [.tmp 6] [3,5] Proofs.Tryz.func22 rfl rfl rfl rfl rfl (by simp) (AWp.of ?_);simp only[go_sem]
    refine Wk ?_
    refine Sd ?_
    refine(hft).val.use ?_;simp only[go_sem]
    refine Wk ?_
    refine Sd ?_
    refine(hb4).val.use ?_;simp only[go_sem]
    refine Sd ?_
    refine GCall.use (ab true) (fun _=>⟨At,(hea).val.use ⟨rfl,rfl⟩⟩) ?_;simp only[go_sem]
    refine Sd ?_
    refine Wk ?_
    refine Sd ?_
    refine(hov).val.use ?_;simp only[go_sem]
    refine Wk ?_
    refine(AWp.block (AWp.count 9 sp.length [] [1,3,5] (fun i vs L=>L=[]∧∀j (hj:j<sp.length),j<i→spT (elimOf ps ts) (spN sp[j])=true) rfl rfl ⟨rfl,fun _ _ h=>by omega⟩ ?_))
    rintro i vs L hil - ⟨rfl,hI⟩
    simp only[go_sem]
    by_cases hi:i<sp.length
    ·have hii:(i:Int)<sp.length:=by omega
     have hg:=getD_map (f:=aSp) hi
     obtain⟨b1,b2,b3⟩:=bad_not (hbd sp[i] (List.getElem_mem hi))
     have hsi1:(spN sp[i]).1=i:=by
      have h1:=hsi i hi
      have h2:sp[i].1=((spN sp[i]).1:Int):=congrArg Prod.fst b3
      omega
     have hip:i<ps.length:=by omega
     have hit:i<ts.length:=by omega
     have hloi:=hlo i hip hit
     have hgt:=getD_map (f:=aPd) hit
     have hnv:=nev_get hip
     have hn64:=valid_nev hv hip
     have hno:spT (elimOf ps ts) (spN sp[i])=false→CK=false:=fun h=>by
      rw[hck,List.all_eq_false]
      exact⟨_,List.mem_map.2 ⟨sp[i],List.getElem_mem hi,rfl⟩,by rw[h];decide⟩
     have hI2:spT (elimOf ps ts) (spN sp[i])=true→∀j (hj:j<sp.length),j<i+1→spT (elimOf ps ts) (spN sp[j])=true:=fun h j hj hji=>by
      by_cases e:j=i
      ·subst e;exact h
      ·exact hI j hj (by omega)
     have hspT:spT (elimOf ps ts) (spN sp[i])=(List.range ((spN sp[i]).2.2+1 - (spN sp[i]).2.1)).all fun j=>(elimOf ps ts).ok i ((spN sp[i]).2.1+j):=by unfold spT;rw[hsi1]
     obtain⟨b4,b5,b6⟩:=b1
     rw[hsi1] at b6
     rw[b2] at hg
     have ep:aStp (spN sp[i]) = .agg [ai (spN sp[i]).1,ai (spN sp[i]).2.1,ai (spN sp[i]).2.2]:=rfl
     rw[ep] at hg
     clear hI b2 ep b3
     generalize spT (elimOf ps ts) (spN sp[i])=ST at *
     generalize (spN sp[i]).2.1=f at *
     generalize (spN sp[i]).2.2=t at *
     generalize (spN sp[i]).1=p0 at *
     generalize ts[i]=tt at *
     obtain⟨k0,n,pp,q0,s,l⟩:=tt
     simp only[aPd_mk] at hgt hloi
     repeat(first|((with_reducible refine AWp.ofC ?_ ?_);exact rfl;simp only[go_sem,hii,hg])|((with_reducible refine an ?_ ?_);exact Au))
     refine(AWp.block (AWp.loopN [10] [1,3,5,9] (fun mm vs L=>L=[]∧∃k:Nat,vs=[ai k]∧f≤k∧k≤t+1∧mm=t+1 - k∧∀j,f≤j→j<k→(elimOf ps ts).ok i j=true) (t+1 - f) ⟨rfl,f,rfl,Nat.le_refl _,by omega,rfl,fun j h1 h2=>by omega⟩ ?_))
     rintro mm vs L - ⟨rfl,k,rfl,k1,k2,rfl,hK⟩
     simp only[go_sem]
     by_cases hk:k≤t
     ·have hki:(k:Int)≤(t:Int):=by omega
      have hl1:=hloi k (by omega)
      have hbad:(elimOf ps ts).ok i k=false→ST=false:=fun h=>by
       rw[hspT,List.all_eq_false]
       exact⟨k - f,List.mem_range.2 (by omega),by rw[show f+(k - f)=k by omega,h];decide⟩
      have hK2:(elimOf ps ts).ok i k=true→∀j,f≤j→j<k+1→(elimOf ps ts).ok i j=true:=fun h j h1 h2=>by
       by_cases e:j=k
       ·subst e;exact h
       ·exact hK j h1 (by omega)
      clear hK
      generalize (elimOf ps ts).ok i k=KB at *
      repeat(first|((with_reducible refine AWp.ofC ?_ ?_);exact rfl;simp only[go_sem,hg,hki])|((with_reducible refine an ?_ ?_);exact Au))
      repeat(first|(with_reducible refine AWp.seq ?_)|(with_reducible refine AWp.block ?_))
      refine AWp.read mixed [0,1,2,3,4,5,6,7,8] (by kernel_rfl) ?_;simp only[go_sem,hgt]
      refine Sd ?_
      refine GCall.use (ab KB) (fun _=>⟨At,(hl1).val.use ⟨rfl,rfl⟩⟩) ?_;simp only[go_sem]
      refine Sd ?_
      cases KB with
      | true =>
       refine Wk ?_
       refine Sd ?_
       exact⟨_,List.Sublist.refl _,t+1 - (k+1),by omega,rfl,k+1,by rw[show ((k+1:Nat):Int)=(k:Int)+1 by omega],by omega,by omega,rfl,hK2 rfl⟩
      | false =>
       rw[hno (hbad rfl)]
       refine Wk ?_
       refine ret_eq ?_;simp only[go_sem]
     ·have hki:¬(k:Int)≤(t:Int):=by omega
      have:ST=true:=by
       rw[hspT,List.all_eq_true]
       intro j hj
       have:=List.mem_range.1 hj
       exact hK (f+j) (by omega) (by omega)
      repeat(first|((with_reducible refine AWp.ofC ?_ ?_);exact rfl;simp only[go_sem,hg,hki])|((with_reducible refine an ?_ ?_);exact Au))
      exact⟨_,List.Sublist.refl _,rfl,hI2 this⟩
    ·have hii:¬(i:Int)<sp.length:=by omega
     have:CK=true:=by
      rw[hck,List.all_eq_true]
      intro x hx
      obtain⟨y,hy,rfl⟩:=List.mem_map.1 hx
      obtain⟨j,hj,rfl⟩:=List.getElem_of_mem hy
      exact hI j hj (by omega)
     rw[this]
     repeat(first|((with_reducible refine AWp.ofC ?_ ?_);exact rfl;simp only[go_sem,hii])|((with_reducible refine an ?_ ?_);exact Au))
     refine ret_eq ?_;simp only[go_sem]
   ·have:CK=false:=by
     rw[hck]
     by_cases hG:gvnE ps sp=0
     ·have:OV=false:=by
       cases OV with
       | false=>rfl
       | true=>exact absurd ⟨hG,rfl⟩ hGO
      rw[this];simp
     ·rw[decide_eq_false hG];simp
    rw[this]
    generalize gvnE ps sp=G at *
    refine PC.enter 82 [.tmp 6] [3,5] Proofs.Tryz.func22 rfl rfl rfl rfl rfl (by simp) (AWp.of ?_);simp only[go_sem]
    refine Wk ?_
    refine Sd ?_
    refine(hft).val.use ?_;simp only[go_sem]
    refine Wk ?_
    refine Sd ?_
    refine(hb4).val.use ?_;simp only[go_sem]
    refine Sd ?_
    refine GCall.use (ab true) (fun _=>⟨At,(hea).val.use ⟨rfl,rfl⟩⟩) ?_;simp only[go_sem]
    refine Sd ?_
    refine Wk ?_
    refine Sd ?_
    refine(hov).val.use ?_;simp only[go_sem]
    refine Wk ?_
    refine⟨fun q => ?_,fun q1 q2 q3 => ?_⟩
    ·refine Wk ?_
     refine ret_eq ?_;simp only[go_sem]
    ·exfalso
     simp only[not_imp,Bool.not_eq_false] at q1
     exact hGO q1
  ·have hf:(B4 && EA)=false:=by simpa using hBE
   have:CK=false:=by rw[hck,hf];rfl
   rw[this]
   refine PC.enter 82 [.tmp 6] [3,5] Proofs.Tryz.func22 rfl rfl rfl rfl rfl (by simp) (AWp.of ?_);simp only[go_sem]
   refine Wk ?_
   refine Sd ?_
   refine(hft).val.use ?_;simp only[go_sem]
   refine Wk ?_
   refine Sd ?_
   refine(hb4).val.use ?_;simp only[go_sem]
   refine Sd ?_
   refine GCall.use (ab EA) (fun _=>⟨At,(hea).val.use ⟨rfl,rfl⟩⟩) ?_;simp only[go_sem]
   refine Sd ?_
   refine Wk ?_
   refine⟨fun q => ?_,fun q1 q2 => ?_⟩
   ·refine Wk ?_
    refine ret_eq ?_;simp only[go_sem]
   ·exfalso
    rw[q1,q2] at hf;cases hf
theorem light_spec {a:Ans} (h:lightB a=true):a.run.length≤1000000∧(∀x ∈ a.run,x.length≤1000000)∧a.spans.length≤1000000:=by
 unfold lightB lngR at h
 simp only[Bool.and_eq_true,decide_eq_true_eq,Bool.not_eq_true',Bool.or_eq_false_iff,decide_eq_false_iff_not,List.any_eq_false] at h
 obtain⟨_,_,⟨h1,h2⟩,h3⟩:=h
 refine⟨by omega,fun x hx => ?_,by omega⟩
 have:=h2 x hx
 unfold lng12 at this
 rw[decide_eq_true_eq] at this
 omega
theorem law38_StrongChecks (ps:List Pr) (ts:List Pd) (a:Ans) (hpl:ps.length≤9223372036854775807) (hev:∀p ∈ ps,p.evs.length≤9223372036854775807):PC Proofs.Tryz.prog 5 [aTr ps,.sl 6 (ts.map aPd),aAns a] (ab true):=by
 have haw:=law38_awake
 have hfew:=law38_few ps hpl hev 60
 have hsm:=law38_small ts
 have hli:=law38_light a
 have main:fw38 ps 60=true→sm38 ts=true→lightB a=true→∃B:Bool,PC Proofs.Tryz.prog 21 [aTr ps,.sl 6 (ts.map aPd),aAns a] (ab B)∧PC Proofs.Tryz.prog 22 [aTr ps,.sl 6 (ts.map aPd),aAns a] (ab B):=fun hf hsb hl=>by
  have hvd:=vd38 hf
  obtain⟨htl12,hz⟩:=sm38_spec hsb
  have htl:ts.length≤1000000:=by omega
  obtain⟨l1,l2,l3⟩:=light_spec hl
  cases hv:validF ps with
  | false =>
   have hva:=hvd.val
   have hrv:=hvd.rval
   rw[hv] at hva hrv
   exact⟨false,strong_Check_bad hva ts (by omega) a,ref38_Check_err (by decide) (ref37_Fault_bad hrv ts (by omega)) a⟩
  | true =>
   have hs:=hvd.sm hv
   by_cases hC:conF ps ts=0
   ·exact⟨_,strong_Check ps hs ts hz htl hC a l3 l1 l2,ref38_Check ps hs ts hz htl hC a l3 l1 l2⟩
   ·exact⟨false,strong_Check_err ps hs ts hz htl hC a,ref38_Check_err hC (ref37_Fault ps hs ts hz htl) a⟩
 generalize fw38 ps 60=F at *
 generalize sm38 ts=S at *
 generalize lightB a=G at *
 obtain⟨m,h,kd,c,cs,r,sp,v⟩:=a
 have hA:aAns ⟨m,h,kd,c,cs,r,sp,v⟩ = .agg [ai m,ab h,ai kd,.sl 1 (c.map ai),.sl 1 (cs.map aInts),.sl 1 (r.map aInts),.sl 3 (sp.map aSp),ai v]:=rfl
 rw[hA] at hli main ⊢
 by_cases hall:F=true∧S=true∧G=true
 ·obtain⟨rfl,rfl,rfl⟩:=hall
  obtain⟨B,h1,h2⟩:=main rfl rfl rfl
  refine PC.enter 34 [.tmp 6] [3,5] Proofs.Tryz.func5 rfl rfl rfl rfl rfl (by simp) (AWp.of ?_);simp only[go_sem]
  refine Wk ?_
  refine Sd ?_
  refine(haw).val.use ?_;simp only[go_sem]
  refine Sd ?_
  refine GCall.use (ab true) (fun _=>⟨At,(hfew).val.use ⟨rfl,rfl⟩⟩) ?_;simp only[go_sem]
  refine Sd ?_
  refine Sd ?_
  refine GCall.use (ab true) (fun _=>⟨At,(hsm).val.use ⟨rfl,rfl⟩⟩) ?_;simp only[go_sem]
  refine Sd ?_
  refine Sd ?_
  refine GCall.use (ab true) (fun _=>⟨At,(hli).val.use ⟨rfl,rfl⟩⟩) ?_;simp only[go_sem]
  refine Sd ?_
  refine Wk ?_
  repeat(first|(with_reducible refine AWp.seq ?_)|(with_reducible refine AWp.block ?_))
  refine AWp.mix mixed [0,1,2,3,4,5,6,7,8,9] .done (by kernel_rfl) ?_;simp only[go_sem]
  refine Sd ?_
  refine GCall.use (ab B) (fun _=>⟨At,(h1).val.use ⟨rfl,rfl⟩⟩) ?_;simp only[go_sem]
  refine Sd ?_
  refine GCall.use (ab B) (fun _=>⟨At,(h2).val.use ⟨rfl,rfl⟩⟩) ?_;simp only[go_sem]
  refine Sd ?_
  refine Wk ?_
  refine ret_eq ?_;simp only[go_sem]
 ·refine PC.enter 34 [.tmp 6] [3,5] Proofs.Tryz.func5 rfl rfl rfl rfl rfl (by simp) (AWp.of ?_);simp only[go_sem]
  refine Wk ?_
  refine Sd ?_
  refine(haw).val.use ?_;simp only[go_sem]
  refine Sd ?_
  refine GCall.use (ab F) (fun _=>⟨At,(hfew).val.use ⟨rfl,rfl⟩⟩) ?_;simp only[go_sem]
  refine Sd ?_
  refine Sd ?_
  refine GCall.use (ab S) (fun _=>⟨At,(hsm).val.use ⟨rfl,rfl⟩⟩) ?_;simp only[go_sem]
  refine Sd ?_
  refine Sd ?_
  refine GCall.use (ab G) (fun _=>⟨At,(hli).val.use ⟨rfl,rfl⟩⟩) ?_;simp only[go_sem]
  refine Sd ?_
  refine Wk ?_
  refine⟨fun q => ?_,fun q1 q2 q3 => ?_⟩
  ·refine Wk ?_
   refine Sd ?_
   refine(haw).val.use ?_;simp only[go_sem]
   refine Wk ?_
   refine ret_eq ?_;simp only[go_sem]
  ·exact absurd ⟨q1,q2,q3⟩ hall
end Go.AL
end
