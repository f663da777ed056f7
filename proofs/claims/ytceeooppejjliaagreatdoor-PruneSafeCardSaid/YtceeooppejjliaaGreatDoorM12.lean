/- Texts of this claim's proof: WPj, WPi. No condition. -/
import Derived.Test.YtceeooppejjliaaGreatDoorM11
import Derived.Test.YtceeooppejjliaaGreatDoorM10
import Derived.Test.YtceeooppejjliaaGreatDoorM9
section
namespace Go.AL
open Go Go.RowKit
set_option maxRecDepth 4000
theorem ref28_Range (ps : List Pr) (hs : Sm ps) (hv : validF ps = true) (p : Nat) (hp : p < ps.length) (v : Nat) (hvv : v < ps[p].vars.length) :
  PC Proofs.Tryz.prog 211 [aTr ps, ai p, ai v] (.tup [ai (minL (valsF ps[p] v)), ai (maxL (valsF ps[p] v))]) := by
 have hm := List.getElem_mem hp
 have hel := hs.evs _ hm
 have hasg := hs.asg _ hm
 have hao := asg_of_valid hv p hp
 have hdi := dis_of_valid hv p hp
 have hgp := getD_map (f := aPr) hp
 generalize ps[p] = x at *
 have hgv := getD_map (f := aVar) hvv
 have hvl := valsF_length x v
 have hs0 : (valsF x v)[0]'(by omega) = x.vars[v].2 := by
  rw [valsF_get, List.getD_eq_getElem?_getD]; simp [stateAt, hvv]
 have h1 : (valsF x v).take 1 = [x.vars[v].2] := by rw [List.take_succ_eq_append_getElem (by omega), hs0]; rfl
 have hfull : (valsF x v).take (x.evs.length + 1) = valsF x v := by rw [← hvl, List.take_length]
 refine PC.enter 74 [.tmp 6, .tmp 7] [3] Proofs.Tryz.func211 rfl rfl rfl rfl rfl (by simp) (AWp.of ?_); simp only [go_sem]
 repeat (first | ((with_reducible refine AWp.ofC ?_ ?_); exact rfl; simp only [go_sem, hgp, hgv]) | ((with_reducible refine an ?_ ?_); exact Au))
 refine AWp.block (AWp.count 10 x.evs.length [8, 9] [1, 2, 3] (fun k vs L => L = [] ∧ vs = [ai (minL ((valsF x v).take (k + 1))), ai (maxL ((valsF x v).take (k + 1)))]) rfl rfl ⟨rfl, by rw [h1]; rfl⟩ ?_)
 rintro k vs L' hk - ⟨rfl, rfl⟩
 simp only [go_sem]
 repeat (first | ((with_reducible refine AWp.ofC ?_ ?_); exact rfl; simp only [go_sem, hgp]) | ((with_reducible refine an ?_ ?_); exact Au))
 refine ⟨fun h0 => ?_, fun h0 => ?_⟩
 ·have hk : k < x.evs.length := by omega
  have hge := getD_map (f := aEv) hk
  have hme := List.getElem_mem hk
  have hal := hasg _ hme
  have hst := stateAt_succ x k hk
  have htn := minL_take (l := valsF x v) (k := k + 1) (by omega) (by omega)
  have htx := maxL_take (l := valsF x v) (k := k + 1) (by omega) (by omega)
  rw [valsF_get] at htn htx
  have hvs : v < (stateAt x k).length := by rw [stateAt_length]; exact hvv
  have hold : (stateAt x k).getD v 0 ∈ (valsF x v).take (k + 1) := by
   rw [← valsF_get x v (k := k) (by omega), List.mem_take_iff_getElem]
   exact ⟨k, by omega, rfl⟩
  have hnone : (∀ b (hb : b < x.evs[k].asg.length), x.evs[k].asg[b].1 ≠ v) → (stateAt x (k + 1)).getD v 0 = (stateAt x k).getD v 0 := fun h => by
   rw [hst, List.getD_eq_getElem?_getD, assignL_none x.evs[k].asg _ fun a ha => ?_, List.getD_eq_getElem?_getD]
   obtain ⟨b, hb, rfl⟩ := List.getElem_of_mem ha
   exact ⟨(hao _ hme _ ha).1, h b hb⟩
  have hhit : ∀ b (hb : b < x.evs[k].asg.length), x.evs[k].asg[b].1 = v → (stateAt x (k + 1)).getD v 0 = x.evs[k].asg[b].2 := fun b hb h => by
   rw [hst, List.getD_eq_getElem?_getD, assignL_hit x.evs[k].asg _ hvs (fun a ha => (hao _ hme _ ha).1) (hdi _ hme) b hb h]; rfl
  have hdi := hdi _ hme
  have hlo := minL_le hold
  have hhi := le_maxL hold
  generalize minL ((valsF x v).take (k + 1)) = lo at *
  generalize maxL ((valsF x v).take (k + 1)) = hi at *
  generalize (stateAt x (k + 1)).getD v 0 = w at *
  generalize (stateAt x k).getD v 0 = w0 at *
  generalize x.evs[k] = e at *
  repeat (first | ((with_reducible refine AWp.ofC ?_ ?_); exact rfl; simp only [go_sem, hgp, hge]) | ((with_reducible refine an ?_ ?_); exact Au))
  refine AWp.block (AWp.count 12 e.asg.length [8, 9] [1, 2, 3, 10, 11] (fun j vs L => L = [] ∧ ((vs = [ai lo, ai hi] ∧ ∀ b (hb : b < e.asg.length), b < j → e.asg[b].1 ≠ v) ∨ ∃ b, ∃ hb : b < e.asg.length, b < j ∧ e.asg[b].1 = v ∧ vs = [ai (mn2 lo e.asg[b].2), ai (mx2 hi e.asg[b].2)]))
   rfl rfl ⟨rfl, .inl ⟨rfl, by omega⟩⟩ ?_)
  rintro j vs L hj - ⟨rfl, hJ⟩
  by_cases h2 : j < e.asg.length
  ·have hga := getD_map (f := aAsg) h2
   by_cases h3 : e.asg[j].1 = v
   ·rcases hJ with ⟨rfl, hJ⟩ | ⟨b, hb, hbj, hbv, rfl⟩
    ·simp only [go_sem]
     repeat (first | ((with_reducible refine AWp.ofC ?_ ?_); exact rfl; simp only [go_sem, hga, (show (j : Int) < e.asg.length by omega)]) | ((with_reducible refine an ?_ ?_); exact Au))
     refine ⟨fun _ => ?_, fun h => absurd h3 h⟩
     refine AWp.mix mixed [0, 1, 2, 3, 4, 5, 6, 7, 8, 9, 10, 11, 12, 13] (.step 14 (.step 15 .done .done) .done) (by kernel_rfl) ?_; simp only [go_sem, hga]
     repeat ((with_reducible refine an ?_ ?_); exact As)
     repeat (first | ((with_reducible refine AWp.ofC ?_ ?_); exact rfl; simp only [go_sem]) | ((with_reducible refine an ?_ ?_); exact Au))
     exact ⟨_, List.Sublist.refl _, rfl, .inr ⟨j, h2, by omega, h3, rfl⟩⟩
    ·exact absurd (hbv.trans h3.symm) (hdi b j hb h2 hbj)
   ·have hJ' : ∀ vs : List AV, ((vs = [ai lo, ai hi] ∧ ∀ b (hb : b < e.asg.length), b < j → e.asg[b].1 ≠ v) ∨ ∃ b, ∃ hb : b < e.asg.length, b < j ∧ e.asg[b].1 = v ∧ vs = [ai (mn2 lo e.asg[b].2), ai (mx2 hi e.asg[b].2)]) →
      ((vs = [ai lo, ai hi] ∧ ∀ b (hb : b < e.asg.length), b < j + 1 → e.asg[b].1 ≠ v) ∨ ∃ b, ∃ hb : b < e.asg.length, b < j + 1 ∧ e.asg[b].1 = v ∧ vs = [ai (mn2 lo e.asg[b].2), ai (mx2 hi e.asg[b].2)]) := by
     rintro vs (⟨rfl, h⟩ | ⟨b, hb, h⟩)
     ·refine .inl ⟨rfl, fun b hb hbj => ?_⟩
      by_cases eb : b = j
      ·subst eb; exact h3
      ·exact h b hb (by omega)
     ·exact .inr ⟨b, hb, by omega, h.2⟩
    have hJ' := hJ' vs hJ
    obtain ⟨y, z, rfl⟩ : ∃ y z, vs = [y, z] := by rcases hJ with ⟨rfl, _⟩ | ⟨_, _, _, _, rfl⟩ <;> exact ⟨_, _, rfl⟩
    simp only [go_sem]
    repeat (first | ((with_reducible refine AWp.ofC ?_ ?_); exact rfl; simp only [go_sem, hga, (show (j : Int) < e.asg.length by omega)]) | ((with_reducible refine an ?_ ?_); exact Au))
    intro _
    repeat (first | ((with_reducible refine AWp.ofC ?_ ?_); exact rfl; simp only [go_sem]) | ((with_reducible refine an ?_ ?_); exact Au))
    exact ⟨_, List.Sublist.refl _, rfl, hJ'⟩
  ·have hres : vs = [ai (mn2 lo w), ai (mx2 hi w)] := by
    rcases hJ with ⟨rfl, hJ⟩ | ⟨b, hb, _, hbv, rfl⟩
    ·rw [hnone fun b hb => hJ b hb (by omega)]
     unfold mn2 mx2
     rw [if_neg (by omega), if_neg (by omega)]
    ·rw [hhit b hb hbv]
   subst hres
   simp only [go_sem]
   repeat (first | ((with_reducible refine AWp.ofC ?_ ?_); exact rfl; simp only [go_sem, (show ¬ (j : Int) < e.asg.length by omega)]) | ((with_reducible refine an ?_ ?_); exact Au))
   exact ⟨_, List.Sublist.refl _, rfl, by rw [htn, htx]⟩
 ·repeat (first | ((with_reducible refine AWp.ofC ?_ ?_); exact rfl; simp only [go_sem]) | ((with_reducible refine an ?_ ?_); exact Au))
  refine ret_eq ?_; simp only [go_sem]
  rw [show k = x.evs.length by omega, hfull]
def aBd3 (x : Bd) : AV := .tup [ai x.1, ai x.2.1, ab x.2.2]
theorem hull_eq (a b c d : Int) : minL [a, b, c, d] = mn2 (mn2 a b) (mn2 c d) ∧ maxL [a, b, c, d] = mx2 (mx2 a b) (mx2 c d) := by
 simp only [minL, maxL, List.foldl_cons, List.foldl_nil]
 unfold mn2 mx2
 constructor
 ·repeat' split
  all_goals omega
 ·repeat' split
  all_goals omega
theorem bdG_eq (i : Int × Int) : bdG i = (i.1, i.2, decide (-1125899906842624 ≤ i.1) && decide (i.2 ≤ 1125899906842624)) := by
 unfold bdG tooB
 congr 2
 rw [Bool.not_or, ← decide_not, ← decide_not]
 congr 1
 ·exact decide_eq_decide.2 (by omega)
 ·exact decide_eq_decide.2 (by omega)
set_option maxHeartbeats 4000000 in
theorem ref28_interval (ps : List Pr) (hs : Sm ps) (hv : validF ps = true) (t : Pd) : szF t ≤ 1000000 → okT ps t = true → t.kind ≤ 8 → PC Proofs.Tryz.prog 178 [aTr ps, aPd t] (aBd3 (intF ps t)) := by
 induction t using Pd.ind with
 | _ k n p q s l ih =>
 intro hz ht hk
 obtain ⟨o1, o2, o3, o4⟩ := okT_sub ht
 obtain ⟨hpl, _⟩ := loc_len o1
 simp only [Pd.kind] at hk
 have hch := child_le ht (show k ≤ 12 by omega)
 have hsz : szF (.mk k n p q s l) = szL l + 1 := by rw [szF]
 have hsp := intF_mk ps k n p q s l
 generalize intF ps (.mk k n p q s l) = I at *
 rcases parts_cases k with ⟨e, hc⟩ | ⟨e, hc⟩ | ⟨e, hc⟩ | e
 ·obtain rfl := len0 (l := l) (by omega)
  obtain ⟨r2, r3, r4⟩ := res_leaf o2
  simp only [List.map_nil, bdN, bdG_eq] at hsp
  unfold aBd3
  simp only [aPd_mk, List.map_nil] at *
  have hk4 : k = 1 ∨ k = 2 ∨ k = 3 ∨ k = 4 := by omega
  have h18 := fun h : k ≤ 4 => (show ¬ k = 5 by omega)
  rcases hk4 with h | h | h | h
  ·have hl : bdL ps k n p q s = (n, n) := by unfold bdL; rw [if_pos h]
   rw [hl] at hsp
   refine PC.enter 155 [.tmp 4, .tmp 5, .tmp 6] [2, 3] Proofs.Tryz.func178 rfl rfl rfl rfl rfl (by simp) (AWp.of ?_); simp only [go_sem]
   repeat (first | ((with_reducible refine AWp.ofC ?_ ?_); exact rfl; simp only [go_sem]) | ((with_reducible refine an ?_ ?_); exact Au))
   intro _
   repeat (first | ((with_reducible refine AWp.ofC ?_ ?_); exact rfl; simp only [go_sem]) | ((with_reducible refine an ?_ ?_); exact Au))
   intro _
   repeat (first | ((with_reducible refine AWp.ofC ?_ ?_); exact rfl; simp only [go_sem, (eq_true h)]) | ((with_reducible refine an ?_ ?_); exact Au))
   refine AWp.mix mixed [0, 1, 2, 3, 4, 5] .done (by kernel_rfl) ?_; simp only [go_sem]
   repeat ((with_reducible refine an ?_ ?_); exact As)
   repeat (first | ((with_reducible refine AWp.ofC ?_ ?_); exact rfl; simp only [go_sem]) | ((with_reducible refine an ?_ ?_); exact Au))
   refine ret_eq ?_; simp only [go_sem]
   rw [hsp]
  ·have h1 : ¬ k = 1 := by omega
   obtain ⟨i, rfl, hp⟩ := isPB_nat (r2 h).1
   have hkn := known_get hp (r2 h).2
   have hl : bdL ps k n i q s = (varLo ps i s, varHi ps i s) := by unfold bdL; rw [if_neg (by omega), if_neg (by omega), if_neg (by omega)]
   rw [hl] at hsp
   have hvx := ref28_Var ps hs i (r2 h).1 s
   rw [varX_get hp] at hvx
   obtain ⟨vx, hvi, hvl⟩ := known_ix hkn
   have hrg := ref28_Range ps hs hv i hp vx hvl
   have e1 : varLo ps i s = minL (valsF ps[i] vx) := by unfold varLo; simp only [Int.toNat_natCast, List.getElem?_eq_getElem hp, hvi]
   have e2 : varHi ps i s = maxL (valsF ps[i] vx) := by unfold varHi; simp only [Int.toNat_natCast, List.getElem?_eq_getElem hp, hvi]
   rw [← e1, ← e2] at hrg
   rw [hvi] at hvx
   generalize varLo ps i s = lo at *
   generalize varHi ps i s = hi at *
   refine PC.enter 155 [.tmp 4, .tmp 5, .tmp 6] [2, 3] Proofs.Tryz.func178 rfl rfl rfl rfl rfl (by simp) (AWp.of ?_); simp only [go_sem]
   repeat (first | ((with_reducible refine AWp.ofC ?_ ?_); exact rfl; simp only [go_sem]) | ((with_reducible refine an ?_ ?_); exact Au))
   intro _
   repeat (first | ((with_reducible refine AWp.ofC ?_ ?_); exact rfl; simp only [go_sem]) | ((with_reducible refine an ?_ ?_); exact Au))
   intro _
   repeat (first | ((with_reducible refine AWp.ofC ?_ ?_); exact rfl; simp only [go_sem, (eq_true h), h1]) | ((with_reducible refine an ?_ ?_); exact Au))
   refine AWp.mix mixed [0, 1, 2, 3, 4, 5, 6, 7, 8, 9, 10, 11, 12, 13, 14] .done (by kernel_rfl) ?_; simp only [go_sem]
   repeat ((with_reducible refine an ?_ ?_); exact As)
   refine GCall.use (ai vx) (fun _ => ⟨At, (hvx).val.use ⟨rfl, rfl⟩⟩) ?_; simp only [go_sem]
   repeat ((with_reducible refine an ?_ ?_); exact As)
   refine GCall.use (.tup [ai lo, ai hi]) (fun _ => ⟨At, (hrg).val.use ⟨rfl, rfl⟩⟩) ?_; simp only [go_sem]
   repeat ((with_reducible refine an ?_ ?_); exact As)
   repeat (first | ((with_reducible refine AWp.ofC ?_ ?_); exact rfl; simp only [go_sem]) | ((with_reducible refine an ?_ ?_); exact Au))
   refine ret_eq ?_; simp only [go_sem]
   rw [hsp]
  ·have h1 : ¬ k = 1 := by omega
   have h2 : ¬ k = 2 := by omega
   obtain ⟨i, rfl, hp⟩ := isPB_nat (r3 h)
   have hgp := getD_map (f := aPr) hp
   have hl : bdL ps k n i q s = (0, (ps[i].evs.length : Int)) := by unfold bdL; rw [if_neg (by omega), if_pos h, evN_get hp]
   rw [hl] at hsp
   refine PC.enter 155 [.tmp 4, .tmp 5, .tmp 6] [2, 3] Proofs.Tryz.func178 rfl rfl rfl rfl rfl (by simp) (AWp.of ?_); simp only [go_sem]
   repeat (first | ((with_reducible refine AWp.ofC ?_ ?_); exact rfl; simp only [go_sem]) | ((with_reducible refine an ?_ ?_); exact Au))
   intro _
   repeat (first | ((with_reducible refine AWp.ofC ?_ ?_); exact rfl; simp only [go_sem]) | ((with_reducible refine an ?_ ?_); exact Au))
   intro _
   repeat (first | ((with_reducible refine AWp.ofC ?_ ?_); exact rfl; simp only [go_sem, (eq_true h), h1, h2, hgp]) | ((with_reducible refine an ?_ ?_); exact Au))
   refine ret_eq ?_; simp only [go_sem]
   rw [hsp]
  ·have h1 : ¬ k = 1 := by omega
   have h2 : ¬ k = 2 := by omega
   have h3 : ¬ k = 3 := by omega
   have hsn := ref28_sent ps hs p (r4 h).1 q
   have hl : bdL ps k n p q s = (0, msgN ps p q) := by unfold bdL; rw [if_neg (by omega), if_neg (by omega), if_pos h]
   rw [hl] at hsp
   generalize msgN ps p q = m at *
   refine PC.enter 155 [.tmp 4, .tmp 5, .tmp 6] [2, 3] Proofs.Tryz.func178 rfl rfl rfl rfl rfl (by simp) (AWp.of ?_); simp only [go_sem]
   repeat (first | ((with_reducible refine AWp.ofC ?_ ?_); exact rfl; simp only [go_sem]) | ((with_reducible refine an ?_ ?_); exact Au))
   intro _
   repeat (first | ((with_reducible refine AWp.ofC ?_ ?_); exact rfl; simp only [go_sem]) | ((with_reducible refine an ?_ ?_); exact Au))
   intro _
   repeat (first | ((with_reducible refine AWp.ofC ?_ ?_); exact rfl; simp only [go_sem, (eq_true h), h1, h2, h3]) | ((with_reducible refine an ?_ ?_); exact Au))
   repeat ((with_reducible refine an ?_ ?_); exact As)
   refine (hsn).val.use ?_; simp only [go_sem]
   repeat (first | ((with_reducible refine AWp.ofC ?_ ?_); exact rfl; simp only [go_sem]) | ((with_reducible refine an ?_ ?_); exact Au))
   refine ret_eq ?_; simp only [go_sem]
   rw [hsp]
 ·obtain ⟨a, rfl⟩ := len1 (l := l) (by omega)
  obtain ⟨c1, c2⟩ := hch a (by simp)
  have hza := szL_mem (l := [a]) (x := a) (by simp)
  have hca := ih a (by simp) (by omega) c1 c2
  have hok := intF_ok ps a
  simp only [List.map_cons, List.map_nil, bdN] at hsp
  clear ih o4 hch
  generalize intF ps a = A at *
  obtain ⟨a1, a2, a3⟩ := A
  obtain ⟨ka, na, pa, qa, sa, la⟩ := a
  have h5 : k = 5 := by omega
  have h1 : ¬ k = 1 := by omega
  have h2 : ¬ k = 2 := by omega
  have h3 : ¬ k = 3 := by omega
  have h4 : ¬ k = 4 := by omega
  simp only [bd2, if_pos h5, bdG_eq] at hsp
  unfold aBd3 at *
  simp only [aPd_mk, List.map_cons, List.map_nil] at *
  refine PC.enter 155 [.tmp 4, .tmp 5, .tmp 6] [2, 3] Proofs.Tryz.func178 rfl rfl rfl rfl rfl (by simp) (AWp.of ?_); simp only [go_sem]
  repeat (first | ((with_reducible refine AWp.ofC ?_ ?_); exact rfl; simp only [go_sem]) | ((with_reducible refine an ?_ ?_); exact Au))
  refine ⟨fun _ => ?_, fun h => absurd (show (0 : Int) < ((1 : Nat) : Int) by decide) h⟩
  refine AWp.mix mixed [0, 1, 2, 3, 4, 5, 6, 7, 8, 9, 10, 11, 12] .done (by kernel_rfl) ?_; simp only [go_sem]
  repeat ((with_reducible refine an ?_ ?_); exact As)
  refine GCall.use (.tup [ai a1, ai a2, ab a3]) (fun _ => ⟨At, (hca).val.use ⟨rfl, rfl⟩⟩) ?_; simp only [go_sem]
  repeat ((with_reducible refine an ?_ ?_); exact As)
  repeat (first | ((with_reducible refine AWp.ofC ?_ ?_); exact rfl; simp only [go_sem]) | ((with_reducible refine an ?_ ?_); exact Au))
  intro _
  repeat (first | ((with_reducible refine AWp.ofC ?_ ?_); exact rfl; simp only [go_sem]) | ((with_reducible refine an ?_ ?_); exact Au))
  refine ⟨fun h6 => ?_, fun h6 => ?_⟩
  ·repeat (first | ((with_reducible refine AWp.ofC ?_ ?_); exact rfl; simp only [go_sem]) | ((with_reducible refine an ?_ ?_); exact Au))
   refine ret_eq ?_; simp only [go_sem]
   rw [hsp, if_neg (by rw [h6]; decide)]
  rw [if_pos h6] at hsp
  have hok := hok h6
  repeat (first | ((with_reducible refine AWp.ofC ?_ ?_); exact rfl; simp only [go_sem, (eq_true h5), h1, h2, h3, h4]) | ((with_reducible refine an ?_ ?_); exact Au))
  refine ret_eq ?_; simp only [go_sem]
  rw [hsp]
 ·obtain ⟨a, b, rfl⟩ := len2 (l := l) (by omega)
  obtain ⟨c1, c2⟩ := hch a (by simp)
  obtain ⟨c3, c4⟩ := hch b (by simp)
  have hza := szL_mem (l := [a, b]) (x := a) (by simp)
  have hzb := szL_mem (l := [a, b]) (x := b) (by simp)
  have hca := ih a (by simp) (by omega) c1 c2
  have hcc := ih b (by simp) (by omega) c3 c4
  have hoka := intF_ok ps a
  have hokb := intF_ok ps b
  simp only [List.map_cons, List.map_nil, bdN, bdG_eq] at hsp
  clear ih o4 hch
  generalize intF ps a = A at *
  generalize intF ps b = B at *
  obtain ⟨a1, a2, a3⟩ := A
  obtain ⟨e1, e2, e3⟩ := B
  obtain ⟨ka, na, pa, qa, sa, la⟩ := a
  obtain ⟨kb, nb, pb, qb, sb, lb⟩ := b
  have h1 : ¬ k = 1 := by omega
  have h2 : ¬ k = 2 := by omega
  have h3 : ¬ k = 3 := by omega
  have h4 : ¬ k = 4 := by omega
  have h5 : ¬ k = 5 := by omega
  unfold aBd3 at *
  simp only [aPd_mk, List.map_cons, List.map_nil] at *
  refine PC.enter 155 [.tmp 4, .tmp 5, .tmp 6] [2, 3] Proofs.Tryz.func178 rfl rfl rfl rfl rfl (by simp) (AWp.of ?_); simp only [go_sem]
  repeat (first | ((with_reducible refine AWp.ofC ?_ ?_); exact rfl; simp only [go_sem]) | ((with_reducible refine an ?_ ?_); exact Au))
  refine ⟨fun _ => ?_, fun h => absurd (show (0 : Int) < ((2 : Nat) : Int) by decide) h⟩
  refine AWp.mix mixed [0, 1, 2, 3, 4, 5, 6, 7, 8, 9, 10, 11, 12] .done (by kernel_rfl) ?_; simp only [go_sem]
  repeat ((with_reducible refine an ?_ ?_); exact As)
  refine GCall.use (.tup [ai a1, ai a2, ab a3]) (fun _ => ⟨At, (hca).val.use ⟨rfl, rfl⟩⟩) ?_; simp only [go_sem]
  repeat ((with_reducible refine an ?_ ?_); exact As)
  repeat (first | ((with_reducible refine AWp.ofC ?_ ?_); exact rfl; simp only [go_sem]) | ((with_reducible refine an ?_ ?_); exact Au))
  refine ⟨fun _ => ?_, fun h => absurd (show (1 : Int) < ((2 : Nat) : Int) by decide) h⟩
  refine AWp.mix mixed [0, 1, 2, 3, 4, 5, 6, 7, 8, 9, 10, 11, 12] .done (by kernel_rfl) ?_; simp only [go_sem]
  repeat ((with_reducible refine an ?_ ?_); exact As)
  refine GCall.use (.tup [ai e1, ai e2, ab e3]) (fun _ => ⟨At, (hcc).val.use ⟨rfl, rfl⟩⟩) ?_; simp only [go_sem]
  repeat ((with_reducible refine an ?_ ?_); exact As)
  repeat (first | ((with_reducible refine AWp.ofC ?_ ?_); exact rfl; simp only [go_sem]) | ((with_reducible refine an ?_ ?_); exact Au))
  refine ⟨fun h6 => ?_, fun h6 => ?_⟩
  ·repeat (first | ((with_reducible refine AWp.ofC ?_ ?_); exact rfl; simp only [go_sem]) | ((with_reducible refine an ?_ ?_); exact Au))
   refine ret_eq ?_; simp only [go_sem]
   rw [hsp, if_neg (by rintro ⟨x1, x2⟩; rw [x1, x2] at h6; simp at h6)]
  intro h7
  rw [if_pos ⟨h6, h7⟩] at hsp
  have hoka := hoka h6
  have hokb := hokb h7
  by_cases k6 : k = 6
  ·have hl : bd2 k (a1, a2, a3) (e1, e2, e3) = (a1 + e1, a2 + e2) := by unfold bd2; rw [if_neg h5, if_pos k6]
   rw [hl] at hsp
   repeat (first | ((with_reducible refine AWp.ofC ?_ ?_); exact rfl; simp only [go_sem, (eq_true k6), h1, h2, h3, h4, h5]) | ((with_reducible refine an ?_ ?_); exact Au))
   refine ret_eq ?_; simp only [go_sem]
   rw [hsp]
  by_cases k7 : k = 7
  ·have hl : bd2 k (a1, a2, a3) (e1, e2, e3) = (a1 - e2, a2 - e1) := by unfold bd2; rw [if_neg h5, if_neg k6, if_pos k7]
   rw [hl] at hsp
   repeat (first | ((with_reducible refine AWp.ofC ?_ ?_); exact rfl; simp only [go_sem, (eq_true k7), h1, h2, h3, h4, h5, k6]) | ((with_reducible refine an ?_ ?_); exact Au))
   refine ret_eq ?_; simp only [go_sem]
   rw [hsp]
  have hl : bd2 k (a1, a2, a3) (e1, e2, e3) = (minL [timesF a1 e1, timesF a1 e2, timesF a2 e1, timesF a2 e2], maxL [timesF a1 e1, timesF a1 e2, timesF a2 e1, timesF a2 e2]) := by unfold bd2; rw [if_neg h5, if_neg k6, if_neg k7]
  rw [hl] at hsp
  have hp1 := ref28_times a1 e1 (by omega) (by omega)
  have hp2 := ref28_times a1 e2 (by omega) (by omega)
  have hp3 := ref28_times a2 e1 (by omega) (by omega)
  have hp4 := ref28_times a2 e2 (by omega) (by omega)
  obtain ⟨hmn, hmx⟩ := hull_eq (timesF a1 e1) (timesF a1 e2) (timesF a2 e1) (timesF a2 e2)
  generalize timesF a1 e1 = t1 at *
  generalize timesF a1 e2 = t2 at *
  generalize timesF a2 e1 = t3 at *
  generalize timesF a2 e2 = t4 at *
  rw [hmn, hmx] at hsp
  unfold mn2 mx2 at hsp
  repeat (first | ((with_reducible refine AWp.ofC ?_ ?_); exact rfl; simp only [go_sem, h1, h2, h3, h4, h5, k6, k7]) | ((with_reducible refine an ?_ ?_); exact Au))
  repeat ((with_reducible refine an ?_ ?_); exact As)
  refine (hp1).val.use ?_; simp only [go_sem]
  repeat (first | ((with_reducible refine AWp.ofC ?_ ?_); exact rfl; simp only [go_sem]) | ((with_reducible refine an ?_ ?_); exact Au))
  repeat ((with_reducible refine an ?_ ?_); exact As)
  refine (hp2).val.use ?_; simp only [go_sem]
  repeat (first | ((with_reducible refine AWp.ofC ?_ ?_); exact rfl; simp only [go_sem]) | ((with_reducible refine an ?_ ?_); exact Au))
  repeat ((with_reducible refine an ?_ ?_); exact As)
  refine (hp3).val.use ?_; simp only [go_sem]
  repeat (first | ((with_reducible refine AWp.ofC ?_ ?_); exact rfl; simp only [go_sem]) | ((with_reducible refine an ?_ ?_); exact Au))
  repeat ((with_reducible refine an ?_ ?_); exact As)
  refine (hp4).val.use ?_; simp only [go_sem]
  repeat (first | ((with_reducible refine AWp.ofC ?_ ?_); exact rfl; simp only [go_sem]) | ((with_reducible refine an ?_ ?_); exact Au))
  repeat ((with_reducible refine an ?_ ?_); exact As)
  refine (hp1).val.use ?_; simp only [go_sem]
  repeat (first | ((with_reducible refine AWp.ofC ?_ ?_); exact rfl; simp only [go_sem]) | ((with_reducible refine an ?_ ?_); exact Au))
  repeat ((with_reducible refine an ?_ ?_); exact As)
  refine (hp2).val.use ?_; simp only [go_sem]
  repeat (first | ((with_reducible refine AWp.ofC ?_ ?_); exact rfl; simp only [go_sem]) | ((with_reducible refine an ?_ ?_); exact Au))
  repeat ((with_reducible refine an ?_ ?_); exact As)
  refine (hp3).val.use ?_; simp only [go_sem]
  repeat (first | ((with_reducible refine AWp.ofC ?_ ?_); exact rfl; simp only [go_sem]) | ((with_reducible refine an ?_ ?_); exact Au))
  repeat ((with_reducible refine an ?_ ?_); exact As)
  refine (hp4).val.use ?_; simp only [go_sem]
  repeat (first | ((with_reducible refine AWp.ofC ?_ ?_); exact rfl; simp only [go_sem]) | ((with_reducible refine an ?_ ?_); exact Au))
  refine ret_eq ?_; simp only [go_sem]
  rw [hsp]
 ·omega
end Go.AL
end
section
namespace Go.AL
open Go Go.RowKit
set_option maxRecDepth 4000
theorem predtype_small (ps : List Pr) (hs : Sm ps) (hv : validF ps = true) (t : Pd) : szF t ≤ 1000000 → okT ps t = true → PC Proofs.Tryz.prog 194 [aTr ps, aPd t] (ab (fitB ps t)) := by
 induction t using Pd.ind with
 | _ k n p q s l ih =>
 intro hz ht
 have hsz : szF (.mk k n p q s l) = szL l + 1 := by rw [szF]
 have hll := szL_len l
 have hsp := fitB_mk ps k n p q s l
 have hr := predtype_result k
 have hbd := fun h => predtype_bounds ps hs hv (.mk k n p q s l) hz ht h
 have h1 : ∀ x ∈ l, PV Proofs.Tryz.prog (.clo 238 [.rp 1 [aTr ps] 0 0]) [aPd x] (ab (!fitB ps x)) := by
  intro x hx
  have hxi := szL_mem hx
  have hch := ih x hx (by omega) ((okT_sub ht).2.2.2 x hx).1
  generalize fitB ps x = b at *
  obtain ⟨k2, n2, p2, q2, s2, l2⟩ := x
  refine PC.clo ?_
  simp only [aPd_mk] at *
  refine PC.enter 8 [.tmp 3] [2] Proofs.Tryz.func238 rfl rfl rfl rfl rfl (by simp) (AWp.of ?_); simp only [go_sem]
  repeat (first | ((with_reducible refine AWp.ofC ?_ ?_); exact rfl; simp only [go_sem]) | ((with_reducible refine an ?_ ?_); exact Au))
  repeat ((with_reducible refine an ?_ ?_); exact As)
  refine (hch).val.use ?_; simp only [go_sem]
  repeat (first | ((with_reducible refine AWp.ofC ?_ ?_); exact rfl; simp only [go_sem]) | ((with_reducible refine an ?_ ?_); exact Au))
  refine ret_eq ?_; simp only [go_sem]
 have hc := preds_containsFunc l (by omega) _ rfl (fun x => !fitB ps x) h1
 have hall : l.all (fitB ps) = !l.any fun x => !fitB ps x := by rw [List.all_eq_not_any_not]
 rw [hall] at hsp
 generalize (l.any fun x => !fitB ps x) = c at *
 generalize fitB ps (.mk k n p q s l) = F at *
 simp only [Pd.kind] at hbd
 have hrk : resF k = 1 ↔ k ≤ 8 := by unfold resF; split <;> omega
 generalize resF k = r at *
 generalize intF ps (.mk k n p q s l) = I at *
 unfold aBd aIv at hbd
 simp only [aPd_mk] at *
 refine PC.enter 23 [.tmp 4] [2, 3, 5] Proofs.Tryz.func194 rfl rfl rfl rfl rfl (by simp) (AWp.of ?_); simp only [go_sem]
 repeat (first | ((with_reducible refine AWp.ofC ?_ ?_); exact rfl; simp only [go_sem]) | ((with_reducible refine an ?_ ?_); exact Au))
 repeat ((with_reducible refine an ?_ ?_); exact As)
 refine (hr).val.use ?_; simp only [go_sem]
 repeat (first | ((with_reducible refine AWp.ofC ?_ ?_); exact rfl; simp only [go_sem]) | ((with_reducible refine an ?_ ?_); exact Au))
 refine ⟨fun h2 => ?_, fun h2 => ?_⟩
 ·have hk := hrk.1 h2
  rw [if_pos hk] at hsp
  have hbd := hbd hk
  repeat (first | ((with_reducible refine AWp.ofC ?_ ?_); exact rfl; simp only [go_sem]) | ((with_reducible refine an ?_ ?_); exact Au))
  repeat ((with_reducible refine an ?_ ?_); exact As)
  refine (hbd).val.use ?_; simp only [go_sem]
  repeat (first | ((with_reducible refine AWp.ofC ?_ ?_); exact rfl; simp only [go_sem]) | ((with_reducible refine an ?_ ?_); exact Au))
  intro b5
  repeat (first | ((with_reducible refine AWp.ofC ?_ ?_); exact rfl; simp only [go_sem]) | ((with_reducible refine an ?_ ?_); exact Au))
  refine ret_eq ?_; simp only [go_sem]
  rw [hsp]
 ·rw [if_neg (fun h => h2 (hrk.2 h))] at hsp
  repeat (first | ((with_reducible refine AWp.ofC ?_ ?_); exact rfl; simp only [go_sem]) | ((with_reducible refine an ?_ ?_); exact Au))
  repeat ((with_reducible refine an ?_ ?_); exact As)
  refine (hc).val.use ?_; simp only [go_sem]
  repeat (first | ((with_reducible refine AWp.ofC ?_ ?_); exact rfl; simp only [go_sem]) | ((with_reducible refine an ?_ ?_); exact Au))
  refine ret_eq ?_; simp only [go_sem]
  rw [hsp]
theorem predtype_Check (ps : List Pr) (hs : Sm ps) (t : Pd) (hz : szF t ≤ 1000000) : PC Proofs.Tryz.prog 147 [aTr ps, aPd t] (ai (checkF ps t)) := by
 have h1 := trace_Valid ps hs
 have h2 := predtype_formed t hz
 have h3 := predtype_resolved ps hs t hz
 have h4 := predtype_typed t hz
 have h5 := fun h1 h2 => predtype_small ps hs h1 t hz h2
 have hsp : checkF ps t = if (validF ps && formedB t) = false then 1 else if allB (resB ps) t = false then 13 else if typedB t = false then 14 else if fitB ps t = false then 9 else 0 := rfl
 have hok : formedB t = true → allB (resB ps) t = true → typedB t = true → okT ps t = true := fun a b c => by
  unfold okT; unfold formedB at a; unfold typedB at c
  simp only [Bool.and_eq_true] at a ⊢
  exact ⟨⟨a.2, b⟩, c⟩
 generalize checkF ps t = r at *
 generalize okT ps t = O at *
 generalize validF ps = V at *
 generalize formedB t = F at *
 generalize allB (resB ps) t = R at *
 generalize typedB t = T at *
 generalize fitB ps t = S at *
 obtain ⟨k, n, p, q, s, l⟩ := t
 simp only [aPd_mk] at *
 refine PC.enter 28 [.tmp 4] [2, 3] Proofs.Tryz.func147 rfl rfl rfl rfl rfl (by simp) (AWp.of ?_); simp only [go_sem]
 repeat (first | ((with_reducible refine AWp.ofC ?_ ?_); exact rfl; simp only [go_sem]) | ((with_reducible refine an ?_ ?_); exact Au))
 repeat ((with_reducible refine an ?_ ?_); exact As)
 refine (h1).val.use ?_; simp only [go_sem]
 repeat ((with_reducible refine an ?_ ?_); exact As)
 refine GCall.use (ab F) (fun _ => ⟨At, (h2).val.use ⟨rfl, rfl⟩⟩) ?_; simp only [go_sem]
 repeat ((with_reducible refine an ?_ ?_); exact As)
 repeat (first | ((with_reducible refine AWp.ofC ?_ ?_); exact rfl; simp only [go_sem]) | ((with_reducible refine an ?_ ?_); exact Au))
 refine ⟨fun h6 => ?_, fun h6 => ?_⟩
 ·repeat (first | ((with_reducible refine AWp.ofC ?_ ?_); exact rfl; simp only [go_sem]) | ((with_reducible refine an ?_ ?_); exact Au))
  refine ret_eq ?_; simp only [go_sem]
  rw [hsp, if_pos (by cases V <;> simp_all)]
 intro h7
 rw [if_neg (by rw [h6, h7]; decide)] at hsp
 repeat (first | ((with_reducible refine AWp.ofC ?_ ?_); exact rfl; simp only [go_sem]) | ((with_reducible refine an ?_ ?_); exact Au))
 repeat ((with_reducible refine an ?_ ?_); exact As)
 refine (h3).val.use ?_; simp only [go_sem]
 repeat (first | ((with_reducible refine AWp.ofC ?_ ?_); exact rfl; simp only [go_sem]) | ((with_reducible refine an ?_ ?_); exact Au))
 refine ⟨fun h8 => ?_, fun h8 => ?_⟩
 ·repeat (first | ((with_reducible refine AWp.ofC ?_ ?_); exact rfl; simp only [go_sem]) | ((with_reducible refine an ?_ ?_); exact Au))
  refine ret_eq ?_; simp only [go_sem]
  rw [hsp, if_pos h8]
 rw [if_neg (by rw [h8]; decide)] at hsp
 repeat (first | ((with_reducible refine AWp.ofC ?_ ?_); exact rfl; simp only [go_sem]) | ((with_reducible refine an ?_ ?_); exact Au))
 repeat ((with_reducible refine an ?_ ?_); exact As)
 refine (h4).val.use ?_; simp only [go_sem]
 repeat (first | ((with_reducible refine AWp.ofC ?_ ?_); exact rfl; simp only [go_sem]) | ((with_reducible refine an ?_ ?_); exact Au))
 refine ⟨fun h9 => ?_, fun h9 => ?_⟩
 ·repeat (first | ((with_reducible refine AWp.ofC ?_ ?_); exact rfl; simp only [go_sem]) | ((with_reducible refine an ?_ ?_); exact Au))
  refine ret_eq ?_; simp only [go_sem]
  rw [hsp, if_pos h9]
 rw [if_neg (by rw [h9]; decide)] at hsp
 have h5 := h5 h6 (hok h7 h8 h9)
 repeat (first | ((with_reducible refine AWp.ofC ?_ ?_); exact rfl; simp only [go_sem]) | ((with_reducible refine an ?_ ?_); exact Au))
 repeat ((with_reducible refine an ?_ ?_); exact As)
 refine (h5).val.use ?_; simp only [go_sem]
 repeat (first | ((with_reducible refine AWp.ofC ?_ ?_); exact rfl; simp only [go_sem]) | ((with_reducible refine an ?_ ?_); exact Au))
 refine ⟨fun h10 => ?_, fun h10 => ?_⟩
 ·repeat (first | ((with_reducible refine AWp.ofC ?_ ?_); exact rfl; simp only [go_sem]) | ((with_reducible refine an ?_ ?_); exact Au))
  refine ret_eq ?_; simp only [go_sem]
  rw [hsp, if_pos h10]
 rw [if_neg (by rw [h10]; decide)] at hsp
 repeat (first | ((with_reducible refine AWp.ofC ?_ ?_); exact rfl; simp only [go_sem]) | ((with_reducible refine an ?_ ?_); exact Au))
 refine ret_eq ?_; simp only [go_sem]
 rw [hsp]
theorem ref28_kind (k n p q : Int) (s : ByteArray) (l : List Pd) : PC Proofs.Tryz.prog 177 [aPd (.mk k n p q s l)] (ai (resF k)) := by
 have hr : resF k = if k ≤ 8 then 1 else 2 := rfl
 generalize resF k = r at *
 refine PC.enter 6 [.tmp 2] [1] Proofs.Tryz.func177 rfl rfl rfl rfl rfl (by simp) (AWp.of ?_); simp only [go_sem]
 repeat (first | ((with_reducible refine AWp.ofC ?_ ?_); exact rfl; simp only [go_sem]) | ((with_reducible refine an ?_ ?_); exact Au))
 refine ⟨fun h1 => ?_, fun h1 => ?_⟩
 ·repeat (first | ((with_reducible refine AWp.ofC ?_ ?_); exact rfl; simp only [go_sem]) | ((with_reducible refine an ?_ ?_); exact Au))
  refine ret_eq ?_; simp only [go_sem]
  rw [hr, if_pos h1]
 ·repeat (first | ((with_reducible refine AWp.ofC ?_ ?_); exact rfl; simp only [go_sem]) | ((with_reducible refine an ?_ ?_); exact Au))
  refine ret_eq ?_; simp only [go_sem]
  rw [hr, if_neg h1]
theorem all_and2 {α : Type} (f g : α → Bool) (l : List α) : (l.all f && l.all g) = l.all fun x => f x && g x := by
 induction l with
 | nil => rfl
 | cons a r ih => rw [List.all_cons, List.all_cons, List.all_cons, ← ih]; cases f a <;> cases g a <;> cases r.all f <;> rfl
theorem ref28_typed (t : Pd) : szF t ≤ 1000000 → allB locB t = true → PC Proofs.Tryz.prog 123 [aPd t] (ab (allB typB t)) := by
 induction t using Pd.ind with
 | _ k n p q s l ih =>
 intro hz ht
 have hsz : szF (.mk k n p q s l) = szL l + 1 := by rw [szF]
 have hll := szL_len l
 obtain ⟨ht1, ht2⟩ := allB_sub ht
 obtain ⟨hpl, _⟩ := loc_len ht1
 have hsp : allB typB (.mk k n p q s l) = l.all fun x => !tyNe k x.kind && allB typB x := by
  rw [allB_mk]
  show ((!l.any fun x => tyNe k x.kind) && l.all (allB typB)) = _
  rw [List.not_any_eq_all_not, all_and2]
 generalize allB typB (.mk k n p q s l) = B at *
 obtain ⟨pB, hpB⟩ : ∃ pB : Pd → Bool, pB = fun x => !tyNe k x.kind && allB typB x := ⟨_, rfl⟩
 rw [← hpB] at hsp
 refine PC.enter 32 [.tmp 2] [1] Proofs.Tryz.func123 rfl rfl rfl rfl rfl (by simp) (AWp.of ?_); simp only [go_sem]
 repeat (first | ((with_reducible refine AWp.ofC ?_ ?_); exact rfl; simp only [go_sem]) | ((with_reducible refine an ?_ ?_); exact Au))
 refine AWp.block (AWp.count 3 l.length [] [1] (fun i vs L => L = [] ∧ ∀ j (hj : j < l.length), j < i → pB l[j] = true) rfl rfl ⟨rfl, by omega⟩ ?_)
 rintro i vs L hi - ⟨rfl, hI⟩
 simp only [go_sem]
 repeat (first | ((with_reducible refine AWp.ofC ?_ ?_); exact rfl; simp only [go_sem]) | ((with_reducible refine an ?_ ?_); exact Au))
 refine ⟨fun h4 => ?_, fun h4 => ?_⟩
 ·have hil : i < l.length := by omega
  have hk : needF k = if 15 ≤ k then 2 else 1 := by
   unfold needF
   rcases parts_cases k with ⟨e, hc⟩ | ⟨e, hc⟩ | ⟨e, hc⟩ | e
   ·omega
   ·split <;> split <;> omega
   ·split <;> split <;> omega
   ·omega
  have hgi := getD_map (f := aPd) hil
  have hzi := szL_mem (List.getElem_mem hil)
  have hch := ih l[i] (List.getElem_mem hil) (by omega) (ht2 _ (List.getElem_mem hil))
  have hnx := all_next (f := pB) hI hil
  have hno := all_not (f := pB) hil
  have hxt : pB l[i] = true ↔ resF l[i].kind = needF k ∧ allB typB l[i] = true := by rw [hpB]; simp only [tyNe, Bool.and_eq_true, Bool.not_eq_true', decide_eq_false_iff_not, Decidable.not_not]
  generalize l[i] = x at *
  generalize allB typB x = bx at *
  obtain ⟨k2, n2, p2, q2, s2, l2⟩ := x
  have hkd := ref28_kind k2 n2 p2 q2 s2 l2
  simp only [aPd_mk, Pd.kind] at hgi hch hkd hxt
  generalize resF k2 = r at *
  by_cases h15 : 15 ≤ k
  ·have hk : needF k = 2 := by rw [hk, if_pos h15]
   rw [hk] at hxt
   repeat (first | ((with_reducible refine AWp.ofC ?_ ?_); exact rfl; simp only [go_sem, (eq_true h15), hgi]) | ((with_reducible refine an ?_ ?_); exact Au))
   repeat ((with_reducible refine an ?_ ?_); exact As)
   refine (hkd).val.use ?_; simp only [go_sem, hgi]
   repeat ((with_reducible refine an ?_ ?_); exact As)
   refine GCall.use (ab bx) (fun _ => ⟨At, (hch).val.use ⟨rfl, rfl⟩⟩) ?_; simp only [go_sem]
   repeat ((with_reducible refine an ?_ ?_); exact As)
   repeat (first | ((with_reducible refine AWp.ofC ?_ ?_); exact rfl; simp only [go_sem]) | ((with_reducible refine an ?_ ?_); exact Au))
   refine ⟨fun h5 => ?_, fun h5 => ?_⟩
   ·repeat (first | ((with_reducible refine AWp.ofC ?_ ?_); exact rfl; simp only [go_sem]) | ((with_reducible refine an ?_ ?_); exact Au))
    refine ret_eq ?_; simp only [go_sem]
    rw [hsp, hno (by rw [← Bool.not_eq_true, hxt]; rintro ⟨e1, e2⟩; rcases h5 with h5 | h5; exact h5 e1; rw [h5] at e2; cases e2)]
   ·intro h6
    repeat (first | ((with_reducible refine AWp.ofC ?_ ?_); exact rfl; simp only [go_sem]) | ((with_reducible refine an ?_ ?_); exact Au))
    exact ⟨_, List.Sublist.refl _, rfl, hnx (hxt.2 ⟨h5, h6⟩)⟩
  ·have hk : needF k = 1 := by rw [hk, if_neg h15]
   rw [hk] at hxt
   repeat (first | ((with_reducible refine AWp.ofC ?_ ?_); exact rfl; simp only [go_sem, h15, hgi]) | ((with_reducible refine an ?_ ?_); exact Au))
   repeat ((with_reducible refine an ?_ ?_); exact As)
   refine (hkd).val.use ?_; simp only [go_sem, hgi]
   repeat ((with_reducible refine an ?_ ?_); exact As)
   refine GCall.use (ab bx) (fun _ => ⟨At, (hch).val.use ⟨rfl, rfl⟩⟩) ?_; simp only [go_sem]
   repeat ((with_reducible refine an ?_ ?_); exact As)
   repeat (first | ((with_reducible refine AWp.ofC ?_ ?_); exact rfl; simp only [go_sem]) | ((with_reducible refine an ?_ ?_); exact Au))
   refine ⟨fun h5 => ?_, fun h5 => ?_⟩
   ·repeat (first | ((with_reducible refine AWp.ofC ?_ ?_); exact rfl; simp only [go_sem]) | ((with_reducible refine an ?_ ?_); exact Au))
    refine ret_eq ?_; simp only [go_sem]
    rw [hsp, hno (by rw [← Bool.not_eq_true, hxt]; rintro ⟨e1, e2⟩; rcases h5 with h5 | h5; exact h5 e1; rw [h5] at e2; cases e2)]
   ·intro h6
    repeat (first | ((with_reducible refine AWp.ofC ?_ ?_); exact rfl; simp only [go_sem]) | ((with_reducible refine an ?_ ?_); exact Au))
    exact ⟨_, List.Sublist.refl _, rfl, hnx (hxt.2 ⟨h5, h6⟩)⟩
 ·repeat (first | ((with_reducible refine AWp.ofC ?_ ?_); exact rfl; simp only [go_sem]) | ((with_reducible refine an ?_ ?_); exact Au))
  refine ret_eq ?_; simp only [go_sem]
  rw [hsp, all_of hI (by omega)]
theorem ref28_fits (ps : List Pr) (hs : Sm ps) (hv : validF ps = true) (t : Pd) : szF t ≤ 1000000 → okT ps t = true → PC Proofs.Tryz.prog 124 [aTr ps, aPd t] (ab (fitB ps t)) := by
 induction t using Pd.ind with
 | _ k n p q s l ih =>
 intro hz ht
 have hsz : szF (.mk k n p q s l) = szL l + 1 := by rw [szF]
 have hll := szL_len l
 have hsp := fitB_mk ps k n p q s l
 have hr := ref28_kind k n p q s l
 have hbd := fun h => ref28_interval ps hs hv (.mk k n p q s l) hz ht h
 generalize fitB ps (.mk k n p q s l) = F at *
 simp only [Pd.kind] at hbd
 have hrk : resF k = 1 ↔ k ≤ 8 := by unfold resF; split <;> omega
 generalize resF k = r at *
 generalize intF ps (.mk k n p q s l) = I at *
 unfold aBd3 at hbd
 simp only [aPd_mk] at hr hbd
 refine PC.enter 35 [.tmp 4] [2, 3] Proofs.Tryz.func124 rfl rfl rfl rfl rfl (by simp) (AWp.of ?_); simp only [go_sem]
 repeat (first | ((with_reducible refine AWp.ofC ?_ ?_); exact rfl; simp only [go_sem]) | ((with_reducible refine an ?_ ?_); exact Au))
 repeat ((with_reducible refine an ?_ ?_); exact As)
 refine (hr).val.use ?_; simp only [go_sem]
 repeat (first | ((with_reducible refine AWp.ofC ?_ ?_); exact rfl; simp only [go_sem]) | ((with_reducible refine an ?_ ?_); exact Au))
 refine ⟨fun h2 => ?_, fun h2 => ?_⟩
 ·have hk := hrk.1 h2
  rw [if_pos hk] at hsp
  have hbd := hbd hk
  repeat (first | ((with_reducible refine AWp.ofC ?_ ?_); exact rfl; simp only [go_sem]) | ((with_reducible refine an ?_ ?_); exact Au))
  repeat ((with_reducible refine an ?_ ?_); exact As)
  refine (hbd).val.use ?_; simp only [go_sem]
  repeat (first | ((with_reducible refine AWp.ofC ?_ ?_); exact rfl; simp only [go_sem]) | ((with_reducible refine an ?_ ?_); exact Au))
  refine ret_eq ?_; simp only [go_sem]
  rw [hsp]
 rw [if_neg (fun h => h2 (hrk.2 h))] at hsp
 repeat (first | ((with_reducible refine AWp.ofC ?_ ?_); exact rfl; simp only [go_sem]) | ((with_reducible refine an ?_ ?_); exact Au))
 refine AWp.block (AWp.count 8 l.length [] [2, 3] (fun i vs L => L = [] ∧ ∀ j (hj : j < l.length), j < i → fitB ps l[j] = true) rfl rfl ⟨rfl, by omega⟩ ?_)
 rintro i vs L hi - ⟨rfl, hI⟩
 simp only [go_sem]
 repeat (first | ((with_reducible refine AWp.ofC ?_ ?_); exact rfl; simp only [go_sem]) | ((with_reducible refine an ?_ ?_); exact Au))
 refine ⟨fun h4 => ?_, fun h4 => ?_⟩
 ·have hil : i < l.length := by omega
  have hgi := getD_map (f := aPd) hil
  have hzi := szL_mem (List.getElem_mem hil)
  have hch := ih l[i] (List.getElem_mem hil) (by omega) ((okT_sub ht).2.2.2 _ (List.getElem_mem hil)).1
  have hnx := all_next hI hil
  have hno := all_not (f := fitB ps) hil
  generalize l[i] = x at *
  generalize fitB ps x = bx at *
  obtain ⟨k2, n2, p2, q2, s2, l2⟩ := x
  simp only [aPd_mk] at hgi hch
  refine AWp.seq (AWp.block (AWp.seq ?_))
  refine AWp.mix mixed [0, 1, 2, 3, 4, 5, 6, 7] .done (by kernel_rfl) ?_; simp only [go_sem, hgi]
  repeat ((with_reducible refine an ?_ ?_); exact As)
  refine GCall.use (ab bx) (fun _ => ⟨At, (hch).val.use ⟨rfl, rfl⟩⟩) ?_; simp only [go_sem]
  repeat ((with_reducible refine an ?_ ?_); exact As)
  repeat (first | ((with_reducible refine AWp.ofC ?_ ?_); exact rfl; simp only [go_sem]) | ((with_reducible refine an ?_ ?_); exact Au))
  refine ⟨fun h5 => ?_, fun h5 => ?_⟩
  ·repeat (first | ((with_reducible refine AWp.ofC ?_ ?_); exact rfl; simp only [go_sem]) | ((with_reducible refine an ?_ ?_); exact Au))
   refine ret_eq ?_; simp only [go_sem]
   rw [hsp, hno h5]
  ·repeat (first | ((with_reducible refine AWp.ofC ?_ ?_); exact rfl; simp only [go_sem]) | ((with_reducible refine an ?_ ?_); exact Au))
   exact ⟨_, List.Sublist.refl _, rfl, hnx h5⟩
 ·repeat (first | ((with_reducible refine AWp.ofC ?_ ?_); exact rfl; simp only [go_sem]) | ((with_reducible refine an ?_ ?_); exact Au))
  refine ret_eq ?_; simp only [go_sem]
  rw [hsp, all_of hI (by omega)]
theorem ref28_Check (ps : List Pr) (hs : Sm ps) (t : Pd) (hz : szF t ≤ 1000000) : PC Proofs.Tryz.prog 63 [aTr ps, aPd t] (ai (checkF ps t)) := by
 have h1 := ref12_Valid ps hs
 have h2 := ref28_Formed t hz
 have h3 := ref28_Resolved ps hs t hz
 have h4 : formedB t = true → PC Proofs.Tryz.prog 123 [aPd t] (ab (typedB t)) := fun h => by
  unfold formedB at h; simp only [Bool.and_eq_true] at h
  exact ref28_typed t hz h.2
 have h5 := fun h1 h2 => ref28_fits ps hs h1 t hz h2
 have hsp : checkF ps t = if (validF ps && formedB t) = false then 1 else if allB (resB ps) t = false then 13 else if typedB t = false then 14 else if fitB ps t = false then 9 else 0 := rfl
 have hok : formedB t = true → allB (resB ps) t = true → typedB t = true → okT ps t = true := fun a b c => by
  unfold okT; unfold formedB at a; unfold typedB at c
  simp only [Bool.and_eq_true] at a ⊢
  exact ⟨⟨a.2, b⟩, c⟩
 generalize checkF ps t = r at *
 generalize okT ps t = O at *
 generalize validF ps = V at *
 generalize formedB t = F at *
 generalize allB (resB ps) t = R at *
 generalize typedB t = T at *
 generalize fitB ps t = S at *
 obtain ⟨k, n, p, q, s, l⟩ := t
 simp only [aPd_mk] at *
 refine PC.enter 24 [.tmp 4] [2, 3] Proofs.Tryz.func63 rfl rfl rfl rfl rfl (by simp) (AWp.of ?_); simp only [go_sem]
 repeat (first | ((with_reducible refine AWp.ofC ?_ ?_); exact rfl; simp only [go_sem]) | ((with_reducible refine an ?_ ?_); exact Au))
 repeat ((with_reducible refine an ?_ ?_); exact As)
 refine (h1).val.use ?_; simp only [go_sem]
 repeat ((with_reducible refine an ?_ ?_); exact As)
 refine GCall.use (ab F) (fun _ => ⟨At, (h2).val.use ⟨rfl, rfl⟩⟩) ?_; simp only [go_sem]
 repeat ((with_reducible refine an ?_ ?_); exact As)
 repeat (first | ((with_reducible refine AWp.ofC ?_ ?_); exact rfl; simp only [go_sem]) | ((with_reducible refine an ?_ ?_); exact Au))
 refine ⟨fun h6 => ?_, fun h6 => ?_⟩
 ·repeat (first | ((with_reducible refine AWp.ofC ?_ ?_); exact rfl; simp only [go_sem]) | ((with_reducible refine an ?_ ?_); exact Au))
  refine ret_eq ?_; simp only [go_sem]
  rw [hsp, if_pos (by cases V <;> simp_all)]
 intro h7
 rw [if_neg (by rw [h6, h7]; decide)] at hsp
 have h4 := h4 h7
 repeat (first | ((with_reducible refine AWp.ofC ?_ ?_); exact rfl; simp only [go_sem]) | ((with_reducible refine an ?_ ?_); exact Au))
 repeat ((with_reducible refine an ?_ ?_); exact As)
 refine (h3).val.use ?_; simp only [go_sem]
 repeat (first | ((with_reducible refine AWp.ofC ?_ ?_); exact rfl; simp only [go_sem]) | ((with_reducible refine an ?_ ?_); exact Au))
 refine ⟨fun h8 => ?_, fun h8 => ?_⟩
 ·repeat (first | ((with_reducible refine AWp.ofC ?_ ?_); exact rfl; simp only [go_sem]) | ((with_reducible refine an ?_ ?_); exact Au))
  refine ret_eq ?_; simp only [go_sem]
  rw [hsp, if_pos h8]
 rw [if_neg (by rw [h8]; decide)] at hsp
 repeat (first | ((with_reducible refine AWp.ofC ?_ ?_); exact rfl; simp only [go_sem]) | ((with_reducible refine an ?_ ?_); exact Au))
 repeat ((with_reducible refine an ?_ ?_); exact As)
 refine (h4).val.use ?_; simp only [go_sem]
 repeat (first | ((with_reducible refine AWp.ofC ?_ ?_); exact rfl; simp only [go_sem]) | ((with_reducible refine an ?_ ?_); exact Au))
 refine ⟨fun h9 => ?_, fun h9 => ?_⟩
 ·repeat (first | ((with_reducible refine AWp.ofC ?_ ?_); exact rfl; simp only [go_sem]) | ((with_reducible refine an ?_ ?_); exact Au))
  refine ret_eq ?_; simp only [go_sem]
  rw [hsp, if_pos h9]
 rw [if_neg (by rw [h9]; decide)] at hsp
 have h5 := h5 h6 (hok h7 h8 h9)
 repeat (first | ((with_reducible refine AWp.ofC ?_ ?_); exact rfl; simp only [go_sem]) | ((with_reducible refine an ?_ ?_); exact Au))
 repeat ((with_reducible refine an ?_ ?_); exact As)
 refine (h5).val.use ?_; simp only [go_sem]
 repeat (first | ((with_reducible refine AWp.ofC ?_ ?_); exact rfl; simp only [go_sem]) | ((with_reducible refine an ?_ ?_); exact Au))
 refine ⟨fun h10 => ?_, fun h10 => ?_⟩
 ·repeat (first | ((with_reducible refine AWp.ofC ?_ ?_); exact rfl; simp only [go_sem]) | ((with_reducible refine an ?_ ?_); exact Au))
  refine ret_eq ?_; simp only [go_sem]
  rw [hsp, if_pos h10]
 rw [if_neg (by rw [h10]; decide)] at hsp
 repeat (first | ((with_reducible refine AWp.ofC ?_ ?_); exact rfl; simp only [go_sem]) | ((with_reducible refine an ?_ ?_); exact Au))
 refine ret_eq ?_; simp only [go_sem]
 rw [hsp]
end Go.AL
end
