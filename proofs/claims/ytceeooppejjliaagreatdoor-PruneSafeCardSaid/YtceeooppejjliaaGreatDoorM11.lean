/- Texts of this claim's proof: WVe, WPg, WPh, WRf9. No condition. -/
import Derived.Test.YtceeooppejjliaaGreatDoorM10
import Derived.Test.YtceeooppejjliaaGreatDoorM8
section
namespace Go.AL
open Go Go.RowKit
set_option maxRecDepth 4000
def aView (ps : List Pr) (c : List Int) (V : List (List Int)) : AV := .agg [aPrs ps, aInts c, aRows V]
theorem view_variable1 (v : ByteArray × Int) (k n p q : Int) (s : ByteArray) (l : List Pd) : PC Proofs.Tryz.prog 264 [aVar v, .rp 6 [aPd (.mk k n p q s l)] 0 0] (ab (nmB s v)) := by
 generalize hb : nmB s v = b
 refine PC.enter 9 [.tmp 3] [2] Proofs.Tryz.func264 rfl rfl rfl rfl rfl (by simp) (AWp.of ?_); simp only [go_sem]
 repeat (first | ((with_reducible refine AWp.ofC ?_ ?_); exact rfl; simp only [go_sem]) | ((with_reducible refine an ?_ ?_); exact Au))
 refine ret_eq ?_; simp only [go_sem]
 rw [← hb]; rfl
theorem view_variable (ps : List Pr) (hs : Sm ps) (c : List Int) (V : List (List Int)) (k n : Int) (p : Nat) (q : Int) (s : ByteArray) (l : List Pd) (hp : p < ps.length) (hkn : knownB ps p s = true)
  (hV : p < V.length) (hr : V[p].length = ps[p].vars.length) :
  PC Proofs.Tryz.prog 239 [aView ps c V, aPd (.mk k n p q s l)] (ai (V[p].getD (varIx ps[p].vars s).toNat 0)) := by
 have hm := List.getElem_mem hp
 have hk := known_get hp hkn
 obtain ⟨i, hi, hil⟩ := known_ix hk
 have hfi : PC Proofs.Tryz.prog 263 [aVars ps[p].vars, .clo 264 [.rp 6 [aPd (.mk k n p q s l)] 0 0]] (ai (varIx ps[p].vars s)) :=
  vars_indexFunc ps[p].vars (hs.vars _ hm) (.clo 264 [.rp 6 [aPd (.mk k n p q s l)] 0 0]) rfl (nmB s) fun v _ => (view_variable1 v k n p q s l).clo
 rw [hi] at hfi ⊢
 rw [Int.toNat_natCast]
 have hgp := getD_map (f := aPr) hp
 have hgV := getD_map (f := aInts) hV
 have hgr := getD_map (f := ai) (l := V[p]) (k := i) (by omega)
 have hres : V[p].getD i 0 = V[p][i]'(by omega) := by rw [List.getD_eq_getElem?_getD, List.getElem?_eq_getElem (by omega)]; rfl
 rw [hres]
 generalize V[p][i]'(by omega) = w at *
 have hrl : i < V[p].length := by omega
 unfold aView
 simp only [aPd_mk] at *
 refine PC.enter 25 [.tmp 4] [2, 3] Proofs.Tryz.func239 rfl rfl rfl rfl rfl (by simp) (AWp.of ?_); simp only [go_sem]
 repeat (first | ((with_reducible refine AWp.ofC ?_ ?_); exact rfl; simp only [go_sem, hgp]) | ((with_reducible refine an ?_ ?_); exact Au))
 repeat ((with_reducible refine an ?_ ?_); exact As)
 refine (hfi).val.use ?_; simp only [go_sem]
 repeat (first | ((with_reducible refine AWp.ofC ?_ ?_); exact rfl; simp only [go_sem, hgV, hgr]) | ((with_reducible refine an ?_ ?_); exact Au))
 refine ret_eq ?_; simp only [go_sem]
def leafOk (ps : List Pr) (c : List Int) (V : List (List Int)) (o : Obs) : Pd → Prop
 | .mk k n p q s l => (k = 2 → PC Proofs.Tryz.prog 239 [aView ps c V, aPd (.mk k n p q s l)] (ai (o.var p s))) ∧ (k = 3 → 0 ≤ p ∧ c[p.toNat]? = some (o.cnt p)) ∧
  (k = 4 → PC Proofs.Tryz.prog 240 [aView ps c V, aPd (.mk k n p q s l)] (ai (o.chn p q)))
theorem bd_child {ps : List Pr} {k n p q : Int} {s : ByteArray} {l : List Pd} (h : (intF ps (.mk k n p q s l)).2.2 = true) (hl : l.length ≤ 2) : ∀ x ∈ l, (intF ps x).2.2 = true := by
 rw [intF_mk] at h
 match l, hl with
 | [], _ => intro x hx; cases hx
 | [a], _ =>
  simp only [List.map_cons, List.map_nil, bdN] at h
  split at h
  ·rename_i e; intro x hx; simp at hx; subst hx; exact e
  ·cases h
 | [a, b], _ =>
  simp only [List.map_cons, List.map_nil, bdN] at h
  split at h
  ·rename_i e; intro x hx; simp at hx; rcases hx with rfl | rfl; exact e.1; exact e.2
  ·cases h
theorem view_number (ps : List Pr) (c : List Int) (V : List (List Int)) (o : Obs) (_hcl : c.length ≤ 1000000) (t : Pd) : szF t ≤ 1000000 → okT ps t = true → t.kind ≤ 8 → (intF ps t).2.2 = true → AllP (obsB ps o) t → AllP (leafOk ps c V o) t →
  PC Proofs.Tryz.prog 196 [aView ps c V, aPd t] (ai (valF o t)) := by
 induction t using Pd.ind with
 | _ k n p q s l ih =>
 intro hz ht hk hi hob hlf
 have hbnd := valF_bounds ps o _ ht hk hob hi
 obtain ⟨o1, o2, o3, o4⟩ := okT_sub ht
 obtain ⟨hpl, _⟩ := loc_len o1
 simp only [Pd.kind] at hk
 have hch := child_le ht (show k ≤ 12 by omega)
 have hsz : szF (.mk k n p q s l) = szL l + 1 := by rw [szF]
 have hsp := valF_mk o k n p q s l
 have hci := bd_child hi
 obtain ⟨⟨lf2, lf3, lf4⟩, hls⟩ := AllP_sub hlf
 obtain ⟨_, hos⟩ := AllP_sub hob
 generalize valF o (.mk k n p q s l) = R at *
 have hb : -1125899906842624 ≤ R ∧ R ≤ 1125899906842624 := by omega
 clear hbnd hi
 unfold aView at *
 have hcb := fun (x : Pd) (hx : x ∈ l) (h : l.length ≤ 2) => valF_bounds ps o x (hch x hx).1 (hch x hx).2 (hos x hx) (hci h x hx)
 rcases parts_cases k with ⟨e, hc⟩ | ⟨e, hc⟩ | ⟨e, hc⟩ | e
 ·obtain rfl := len0 (l := l) (by omega)
  simp only [List.map_nil, valN, aPd_mk] at *
  have hk4 : k = 1 ∨ k = 2 ∨ k = 3 ∨ k = 4 := by omega
  rcases hk4 with h | h | h | h
  ·have hsp : R = n := by rw [hsp, if_pos h]
   refine PC.enter 81 [.tmp 4] [2, 3] Proofs.Tryz.func196 rfl rfl rfl rfl rfl (by simp) (AWp.of ?_); simp only [go_sem]
   repeat (first | ((with_reducible refine AWp.ofC ?_ ?_); exact rfl; simp only [go_sem, (eq_true h)]) | ((with_reducible refine an ?_ ?_); exact Au))
   refine ret_eq ?_; simp only [go_sem]
   rw [hsp]
  ·have lf := lf2 h
   have h1 : ¬ k = 1 := by omega
   rw [if_neg h1, if_pos h] at hsp
   refine PC.enter 81 [.tmp 4] [2, 3] Proofs.Tryz.func196 rfl rfl rfl rfl rfl (by simp) (AWp.of ?_); simp only [go_sem]
   repeat (first | ((with_reducible refine AWp.ofC ?_ ?_); exact rfl; simp only [go_sem, (eq_true h), h1]) | ((with_reducible refine an ?_ ?_); exact Au))
   repeat ((with_reducible refine an ?_ ?_); exact As)
   refine (lf).val.use ?_; simp only [go_sem]
   repeat (first | ((with_reducible refine AWp.ofC ?_ ?_); exact rfl; simp only [go_sem]) | ((with_reducible refine an ?_ ?_); exact Au))
   refine ret_eq ?_; simp only [go_sem]
   rw [hsp]
  ·obtain ⟨p0, pc⟩ := lf3 h
   obtain ⟨hpc, hpe⟩ := List.getElem?_eq_some_iff.1 pc
   have hg := getD_map (f := ai) hpc
   have h1 : ¬ k = 1 := by omega
   have h2 : ¬ k = 2 := by omega
   rw [if_neg h1, if_neg h2, if_pos h] at hsp
   rw [hpe] at hg
   refine PC.enter 81 [.tmp 4] [2, 3] Proofs.Tryz.func196 rfl rfl rfl rfl rfl (by simp) (AWp.of ?_); simp only [go_sem]
   repeat (first | ((with_reducible refine AWp.ofC ?_ ?_); exact rfl; simp only [go_sem, (eq_true h), h1, h2, hg]) | ((with_reducible refine an ?_ ?_); exact Au))
   refine ret_eq ?_; simp only [go_sem]
   rw [hsp]
  ·have lf := lf4 h
   have h1 : ¬ k = 1 := by omega
   have h2 : ¬ k = 2 := by omega
   have h3 : ¬ k = 3 := by omega
   rw [if_neg h1, if_neg h2, if_neg h3] at hsp
   refine PC.enter 81 [.tmp 4] [2, 3] Proofs.Tryz.func196 rfl rfl rfl rfl rfl (by simp) (AWp.of ?_); simp only [go_sem]
   repeat (first | ((with_reducible refine AWp.ofC ?_ ?_); exact rfl; simp only [go_sem, (eq_true h), h1, h2, h3]) | ((with_reducible refine an ?_ ?_); exact Au))
   repeat ((with_reducible refine an ?_ ?_); exact As)
   refine (lf).val.use ?_; simp only [go_sem]
   repeat (first | ((with_reducible refine AWp.ofC ?_ ?_); exact rfl; simp only [go_sem]) | ((with_reducible refine an ?_ ?_); exact Au))
   refine ret_eq ?_; simp only [go_sem]
   rw [hsp]
 ·obtain ⟨a, rfl⟩ := len1 (l := l) (by omega)
  have h5 : k = 5 := by omega
  have h1 : ¬ k = 1 := by omega
  have h2 : ¬ k = 2 := by omega
  have h3 : ¬ k = 3 := by omega
  have h4 : ¬ k = 4 := by omega
  obtain ⟨c1, c2⟩ := hch a (by simp)
  have hza := szL_mem (l := [a]) (x := a) (by simp)
  have hca := ih a (by simp) (by omega) c1 c2 (hci (by simp) a (by simp)) (hos a (by simp)) (hls a (by simp))
  have hcb := hcb a (by simp) (by simp)
  simp only [List.map_cons, List.map_nil, valN] at hsp
  generalize valF o a = A at *
  obtain ⟨ka, na, pa, qa, sa, la⟩ := a
  simp only [aPd_mk, List.map_cons, List.map_nil] at *
  refine PC.enter 81 [.tmp 4] [2, 3] Proofs.Tryz.func196 rfl rfl rfl rfl rfl (by simp) (AWp.of ?_); simp only [go_sem]
  repeat (first | ((with_reducible refine AWp.ofC ?_ ?_); exact rfl; simp only [go_sem, (eq_true h5), h1, h2, h3, h4]) | ((with_reducible refine an ?_ ?_); exact Au))
  refine AWp.mix mixed [0, 1, 2, 3, 4, 5, 6, 7] .done (by kernel_rfl) ?_; simp only [go_sem]
  repeat ((with_reducible refine an ?_ ?_); exact As)
  refine GCall.use (ai A) (fun _ => ⟨At, (hca).val.use ⟨rfl, rfl⟩⟩) ?_; simp only [go_sem]
  repeat ((with_reducible refine an ?_ ?_); exact As)
  repeat (first | ((with_reducible refine AWp.ofC ?_ ?_); exact rfl; simp only [go_sem]) | ((with_reducible refine an ?_ ?_); exact Au))
  refine ret_eq ?_; simp only [go_sem]
  rw [hsp]
 ·obtain ⟨a, b, rfl⟩ := len2 (l := l) (by omega)
  have h1 : ¬ k = 1 := by omega
  have h2 : ¬ k = 2 := by omega
  have h3 : ¬ k = 3 := by omega
  have h4 : ¬ k = 4 := by omega
  have h5 : ¬ k = 5 := by omega
  obtain ⟨c1, c2⟩ := hch a (by simp)
  obtain ⟨c3, c4⟩ := hch b (by simp)
  have hza := szL_mem (l := [a, b]) (x := a) (by simp)
  have hzb := szL_mem (l := [a, b]) (x := b) (by simp)
  have hca := ih a (by simp) (by omega) c1 c2 (hci (by simp) a (by simp)) (hos a (by simp)) (hls a (by simp))
  have hcc := ih b (by simp) (by omega) c3 c4 (hci (by simp) b (by simp)) (hos b (by simp)) (hls b (by simp))
  have hcba := hcb a (by simp) (by simp)
  have hcbb := hcb b (by simp) (by simp)
  simp only [List.map_cons, List.map_nil, valN] at hsp
  have hmw := fun h => mulW_eq (a := valF o a) (b := valF o b) h
  generalize valF o a = A at *
  generalize valF o b = B at *
  obtain ⟨ka, na, pa, qa, sa, la⟩ := a
  obtain ⟨kb, nb, pb, qb, sb, lb⟩ := b
  simp only [aPd_mk, List.map_cons, List.map_nil] at *
  refine PC.enter 81 [.tmp 4] [2, 3] Proofs.Tryz.func196 rfl rfl rfl rfl rfl (by simp) (AWp.of ?_); simp only [go_sem]
  by_cases h6 : k = 6
  ·rw [if_pos h6] at hsp
   repeat (first | ((with_reducible refine AWp.ofC ?_ ?_); exact rfl; simp only [go_sem, (eq_true h6), h1, h2, h3, h4, h5]) | ((with_reducible refine an ?_ ?_); exact Au))
   refine AWp.mix mixed [0, 1, 2, 3, 4, 5, 6, 7, 8, 9, 10, 11, 12, 13] .done (by kernel_rfl) ?_; simp only [go_sem]
   repeat ((with_reducible refine an ?_ ?_); exact As)
   refine GCall.use (ai A) (fun _ => ⟨At, (hca).val.use ⟨rfl, rfl⟩⟩) ?_; simp only [go_sem]
   repeat ((with_reducible refine an ?_ ?_); exact As)
   refine GCall.use (ai B) (fun _ => ⟨At, (hcc).val.use ⟨rfl, rfl⟩⟩) ?_; simp only [go_sem]
   repeat ((with_reducible refine an ?_ ?_); exact As)
   repeat (first | ((with_reducible refine AWp.ofC ?_ ?_); exact rfl; simp only [go_sem]) | ((with_reducible refine an ?_ ?_); exact Au))
   refine ret_eq ?_; simp only [go_sem]
   rw [hsp]
  by_cases h7 : k = 7
  ·rw [if_neg h6, if_pos h7] at hsp
   repeat (first | ((with_reducible refine AWp.ofC ?_ ?_); exact rfl; simp only [go_sem, (eq_true h7), h1, h2, h3, h4, h5, h6]) | ((with_reducible refine an ?_ ?_); exact Au))
   refine AWp.mix mixed [0, 1, 2, 3, 4, 5, 6, 7, 8, 9, 10, 11, 12, 13] .done (by kernel_rfl) ?_; simp only [go_sem]
   repeat ((with_reducible refine an ?_ ?_); exact As)
   refine GCall.use (ai A) (fun _ => ⟨At, (hca).val.use ⟨rfl, rfl⟩⟩) ?_; simp only [go_sem]
   repeat ((with_reducible refine an ?_ ?_); exact As)
   refine GCall.use (ai B) (fun _ => ⟨At, (hcc).val.use ⟨rfl, rfl⟩⟩) ?_; simp only [go_sem]
   repeat ((with_reducible refine an ?_ ?_); exact As)
   repeat (first | ((with_reducible refine AWp.ofC ?_ ?_); exact rfl; simp only [go_sem]) | ((with_reducible refine an ?_ ?_); exact Au))
   refine ret_eq ?_; simp only [go_sem]
   rw [hsp]
  rw [if_neg h6, if_neg h7] at hsp
  have hmw := hmw (by rw [← hsp]; unfold I64; omega)
  repeat (first | ((with_reducible refine AWp.ofC ?_ ?_); exact rfl; simp only [go_sem, h1, h2, h3, h4, h5, h6, h7]) | ((with_reducible refine an ?_ ?_); exact Au))
  refine AWp.seq ?_
  refine AWp.mix mixed [0, 1, 2, 3, 4, 5, 6, 7, 8, 9, 10, 11, 12, 13] .done (by kernel_rfl) ?_; simp only [go_sem]
  repeat ((with_reducible refine an ?_ ?_); exact As)
  refine GCall.use (ai A) (fun _ => ⟨At, (hca).val.use ⟨rfl, rfl⟩⟩) ?_; simp only [go_sem]
  repeat ((with_reducible refine an ?_ ?_); exact As)
  refine GCall.use (ai B) (fun _ => ⟨At, (hcc).val.use ⟨rfl, rfl⟩⟩) ?_; simp only [go_sem]
  repeat ((with_reducible refine an ?_ ?_); exact As)
  repeat (first | ((with_reducible refine AWp.ofC ?_ ?_); exact rfl; simp only [go_sem, hmw]) | ((with_reducible refine an ?_ ?_); exact Au))
  refine ret_eq ?_; simp only [go_sem]
  rw [hsp]
 ·omega
end Go.AL
end
section
namespace Go.AL
open Go Go.RowKit
set_option maxRecDepth 4000
theorem variable_values (x : Pr) (h1 : x.vars.length ≤ 1000000) (h2 : x.evs.length ≤ 1000000) (h3 : ∀ e ∈ x.evs, e.asg.length ≤ 1000000) (ha : AsgOk x) (v : Nat) (hv : v < x.vars.length) :
  PC Proofs.Tryz.prog 286 [aPr x, ai v] (aInts (valsF x v)) := by
 have hst := variable_states x
 have hvl := valsF_length x v
 refine PC.enter 20 [.tmp 4] [2, 3, 17] Proofs.Tryz.func286 rfl rfl rfl rfl rfl (by simp) (AWp.of ?_); simp only [go_sem]
 repeat (first | ((with_reducible refine AWp.ofC ?_ ?_); exact rfl; simp only [go_sem]) | ((with_reducible refine an ?_ ?_); exact Au))
 intro b5
 repeat ((with_reducible refine an ?_ ?_); exact As)
 refine AWp.of ?_; simp only [go_sem]
 repeat ((with_reducible refine an ?_ ?_); exact As)
 refine (hst).val.use ?_; simp only [go_sem]
 refine AWp.block (AWp.rangeFunc rfl [3, 5] (stArgs x) (fun j L => ∃ w Lw, L = Lw ++ [(b5, .row 42 1 [w] 1)] ∧ AppSt 3 1 (((valsF x v).take j).map ai) w Lw ∧ ∀ p ∈ Lw, p.1 ≠ b5) (fun _ _ => False)
  rfl (variable_states1 x h1 h2 h3 ha) (fun y hy => by obtain ⟨j, hj⟩ := List.getElem?_of_mem hy; unfold stArgs at hj; rw [List.getElem?_map, Option.map_eq_some_iff] at hj; obtain ⟨_, _, rfl⟩ := hj; rfl) ⟨anil, [], rfl, .nil, by simp⟩ ?_ ?_ ?_)
 ·rintro j y L' l hy ⟨w, Lw, rfl, hA, hne⟩
  have hjl : j ≤ x.evs.length := by
   have := (List.getElem?_eq_some_iff.1 hy).1
   unfold stArgs at this; simp at this; omega
  rw [stArgs_get x j hjl] at hy
  cases hy
  have hvs : v < (stateAt x j).length := by rw [stateAt_length]; exact hv
  have hgs := getD_map (f := ai) hvs
  have hjv : j < (valsF x v).length := by omega
  have hsu : ((valsF x v).take (j + 1)).map ai = ((valsF x v).take j).map ai ++ [ai (stateAt x j)[v]] := by
   rw [List.take_succ_eq_append_getElem hjv, List.map_append, valsF_get, List.getD_eq_getElem?_getD, List.getElem?_eq_getElem hvs]; rfl
  have hyl : (((valsF x v).take j).map ai).length ≤ 1000000 := by rw [List.length_map, List.length_take]; omega
  rw [hsu]
  generalize ((valsF x v).take j).map ai = ys at *
  rcases hA.inv with ⟨e1, rfl, rfl⟩ | ⟨b, cap, rfl, rfl⟩
  ·simp only [go_sem]
   repeat ((with_reducible refine an ?_ ?_); exact As)
   refine AWp.of ?_; simp only [go_sem]
   refine AWp.block ?_
   refine AWp.mix mixed [1, 2, 3, 4] (.step 0 (.step 5 (.step 6 (.step 7 .done .done) .done) .done) (.step 5 (.step 0 (.step 6 (.step 7 .done .done) .done) .done) .done)) (by kernel_rfl) ?_; simp only [go_sem, hgs]
   repeat ((with_reducible refine an ?_ ?_); exact As)
   intro b' cap' hlt _
   have n5 : ¬ b5 = b' := by omega
   simp only [go_sem, n5]
   repeat ((with_reducible refine an ?_ ?_); exact As)
   refine ⟨_, List.Sublist.refl _, _, [(b', .row 3 1 [_] cap')], rfl, ?_, ?_⟩
   ·rw [e1]; exact .row _ [_] _
   ·intro p hp; simp only [List.mem_singleton] at hp; subst hp; exact fun e => n5 e.symm
  ·have n1 : ¬ b = b5 := hne (b, _) List.mem_cons_self
   have n2 : ¬ b5 = b := fun e => n1 e.symm
   simp only [go_sem]
   repeat ((with_reducible refine an ?_ ?_); exact As)
   refine AWp.of ?_; simp only [go_sem]
   refine AWp.block ?_
   refine AWp.mix mixed [1, 2, 3, 4] (.step 0 (.step 5 (.step 6 (.step 7 .done .done) .done) .done) (.step 5 (.step 0 (.step 6 (.step 7 .done .done) .done) .done) .done)) (by kernel_rfl) ?_; simp only [go_sem, hgs, n1, n2]
   repeat ((with_reducible refine an ?_ ?_); exact As)
   intro b' cap' n5 _
   simp only [go_sem, n5]
   repeat ((with_reducible refine an ?_ ?_); exact As)
   refine ⟨_, List.Sublist.refl _, _, [(b', .row 3 1 (ys ++ [_]) cap')], rfl, ?_, ?_⟩
   ·have := AppSt.row (t := 3) (k := 1) b' (ys ++ [ai (stateAt x j)[v]]) cap'
    simpa using this
   ·intro p hp; simp only [List.mem_singleton] at hp; subst hp; exact fun e => n5 e.symm
 ·rintro L' ⟨w, Lw, rfl, hA, hne⟩
  have hl : (stArgs x).length = x.evs.length + 1 := by unfold stArgs; simp
  rw [hl, ← hvl, List.take_length] at hA
  rcases hA.inv with ⟨e1, rfl, rfl⟩ | ⟨b, cap, rfl, rfl⟩
  ·exfalso
   have := congrArg List.length e1
   rw [List.length_map, hvl] at this
   cases this
  ·have n1 : ¬ b = b5 := hne (b, _) List.mem_cons_self
   have n2 : ¬ b5 = b := fun e => n1 e.symm
   simp only [go_sem]
   repeat (first | ((with_reducible refine AWp.ofC ?_ ?_); exact rfl; simp only [go_sem, n2]) | ((with_reducible refine an ?_ ?_); exact Au))
   refine ret_view [true] ?_; simp only [go_sem]
   exact Vw.ofLs (if_pos rfl) (by simp)
 ·rintro e L' h
  exact h.elim
theorem variable_index1 (v : ByteArray × Int) (s : ByteArray) : PC Proofs.Tryz.prog 302 [aVar v, .rp 1 [astr s] 0 0] (ab (nmB s v)) := by
 generalize hb : nmB s v = b
 refine PC.enter 8 [.tmp 3] [2] Proofs.Tryz.func302 rfl rfl rfl rfl rfl (by simp) (AWp.of ?_); simp only [go_sem]
 repeat (first | ((with_reducible refine AWp.ofC ?_ ?_); exact rfl; simp only [go_sem]) | ((with_reducible refine an ?_ ?_); exact Au))
 refine ret_eq ?_; simp only [go_sem]
 rw [← hb]; rfl
theorem variable_index (x : Pr) (h1 : x.vars.length ≤ 1000000) (s : ByteArray) : PC Proofs.Tryz.prog 290 [aPr x, astr s] (ai (varIx x.vars s)) := by
 have hfi : PC Proofs.Tryz.prog 263 [aVars x.vars, .clo 302 [.rp 1 [astr s] 0 0]] (ai (varIx x.vars s)) :=
  vars_indexFunc x.vars h1 (.clo 302 [.rp 1 [astr s] 0 0]) rfl (nmB s) fun v _ => (variable_index1 v s).clo
 generalize varIx x.vars s = r at *
 refine PC.enter 9 [.tmp 4] [2, 3] Proofs.Tryz.func290 rfl rfl rfl rfl rfl (by simp) (AWp.of ?_); simp only [go_sem]
 repeat (first | ((with_reducible refine AWp.ofC ?_ ?_); exact rfl; simp only [go_sem]) | ((with_reducible refine an ?_ ?_); exact Au))
 repeat ((with_reducible refine an ?_ ?_); exact As)
 refine (hfi).val.use ?_; simp only [go_sem]
 repeat (first | ((with_reducible refine AWp.ofC ?_ ?_); exact rfl; simp only [go_sem]) | ((with_reducible refine an ?_ ?_); exact Au))
 refine ret_eq ?_; simp only [go_sem]
theorem variable_find (ps : List Pr) (hs : Sm ps) (hv : validF ps = true) (p : Nat) (hp : p < ps.length) (s : ByteArray) (hk : ¬ varIx ps[p].vars s < 0) : PC Proofs.Tryz.prog 285 [aTr ps, ai p, astr s] (.tup [ai (varIx ps[p].vars s), ai 0]) := by
 have hval := trace_Valid ps hs
 rw [hv] at hval
 have hm := List.getElem_mem hp
 have hgp := getD_map (f := aPr) hp
 have hix := variable_index ps[p] (hs.vars _ hm) s
 generalize varIx ps[p].vars s = r at *
 refine PC.enter 33 [.tmp 6, .tmp 7] [3] Proofs.Tryz.func285 rfl rfl rfl rfl rfl (by simp) (AWp.of ?_); simp only [go_sem]
 repeat (first | ((with_reducible refine AWp.ofC ?_ ?_); exact rfl; simp only [go_sem]) | ((with_reducible refine an ?_ ?_); exact Au))
 repeat ((with_reducible refine an ?_ ?_); exact As)
 refine (hval).val.use ?_; simp only [go_sem]
 have h2 : ¬ ((p : Int) < 0) := by omega
 have h3 : ¬ ((ps.length : Int) ≤ p) := by omega
 repeat (first | ((with_reducible refine AWp.ofC ?_ ?_); exact rfl; simp only [go_sem, h2, h3, hgp]) | ((with_reducible refine an ?_ ?_); exact Au))
 repeat ((with_reducible refine an ?_ ?_); exact As)
 refine (hix).val.use ?_; simp only [go_sem]
 repeat (first | ((with_reducible refine AWp.ofC ?_ ?_); exact rfl; simp only [go_sem, hk]) | ((with_reducible refine an ?_ ?_); exact Au))
 refine ret_eq ?_; simp only [go_sem]
theorem variable_Range (ps : List Pr) (hs : Sm ps) (hv : validF ps = true) (p : Int) (hpb : isPB ps.length p = true) (s : ByteArray) (hkn : knownB ps p s = true) :
  PC Proofs.Tryz.prog 274 [aTr ps, ai p, astr s] (.tup [ai (varLo ps p s), ai (varHi ps p s), ai 0]) := by
 obtain ⟨p, rfl, hp⟩ := isPB_nat hpb
 have hm := List.getElem_mem hp
 have hgp := getD_map (f := aPr) hp
 have hk : ps[p].vars.any (nmB s) = true := by unfold knownB at hkn; simpa only [Int.toNat_natCast, List.getElem?_eq_getElem hp] using hkn
 have hng : ¬ varIx ps[p].vars s < 0 := fun h => by rw [(varIx_neg _ _).1 h] at hk; cases hk
 have hfd := variable_find ps hs hv p hp s hng
 have hlt : (varIx ps[p].vars s).toNat < ps[p].vars.length := by
  unfold varIx at hng ⊢
  cases hf : ps[p].vars.findIdx? (nmB s) with
  | none => rw [hf] at hng; exact absurd (by decide) hng
  | some i => rw [List.findIdx?_eq_some_iff_getElem] at hf; obtain ⟨hi, _⟩ := hf; exact hi
 have hvals := variable_values ps[p] (hs.vars _ hm) (hs.evs _ hm) (hs.asg _ hm) (asg_of_valid hv p hp) _ hlt
 have hvl := valsF_length ps[p] (varIx ps[p].vars s).toNat
 have hel := hs.evs _ hm
 have hmn := ints_minL (valsF ps[p] (varIx ps[p].vars s).toNat) (by omega) (by omega)
 have hmx := ints_maxL (valsF ps[p] (varIx ps[p].vars s).toNat) (by omega) (by omega)
 have e1 : varLo ps p s = minL (valsF ps[p] (varIx ps[p].vars s).toNat) := by unfold varLo; simp only [Int.toNat_natCast, List.getElem?_eq_getElem hp]
 have e2 : varHi ps p s = maxL (valsF ps[p] (varIx ps[p].vars s).toNat) := by unfold varHi; simp only [Int.toNat_natCast, List.getElem?_eq_getElem hp]
 rw [e1, e2]
 have hix : ((varIx ps[p].vars s).toNat : Int) = varIx ps[p].vars s := by omega
 rw [hix] at hvals
 generalize minL (valsF ps[p] (varIx ps[p].vars s).toNat) = lo at *
 generalize maxL (valsF ps[p] (varIx ps[p].vars s).toNat) = hi at *
 generalize valsF ps[p] (varIx ps[p].vars s).toNat = vl at *
 generalize varIx ps[p].vars s = ix at *
 refine PC.enter 32 [.tmp 6, .tmp 7, .tmp 8] [3] Proofs.Tryz.func274 rfl rfl rfl rfl rfl (by simp) (AWp.of ?_); simp only [go_sem]
 repeat (first | ((with_reducible refine AWp.ofC ?_ ?_); exact rfl; simp only [go_sem]) | ((with_reducible refine an ?_ ?_); exact Au))
 repeat ((with_reducible refine an ?_ ?_); exact As)
 refine (hfd).val.use ?_; simp only [go_sem]
 repeat (first | ((with_reducible refine AWp.ofC ?_ ?_); exact rfl; simp only [go_sem, hgp]) | ((with_reducible refine an ?_ ?_); exact Au))
 repeat ((with_reducible refine an ?_ ?_); exact As)
 refine (hvals).val.use ?_; simp only [go_sem]
 repeat (first | ((with_reducible refine AWp.ofC ?_ ?_); exact rfl; simp only [go_sem]) | ((with_reducible refine an ?_ ?_); exact Au))
 repeat ((with_reducible refine an ?_ ?_); exact As)
 refine (hmn).val.use ?_; simp only [go_sem]
 repeat (first | ((with_reducible refine AWp.ofC ?_ ?_); exact rfl; simp only [go_sem]) | ((with_reducible refine an ?_ ?_); exact Au))
 repeat ((with_reducible refine an ?_ ?_); exact As)
 refine (hmx).val.use ?_; simp only [go_sem]
 repeat (first | ((with_reducible refine AWp.ofC ?_ ?_); exact rfl; simp only [go_sem]) | ((with_reducible refine an ?_ ?_); exact Au))
 refine ret_eq ?_; simp only [go_sem]
end Go.AL
end
section
namespace Go.AL
open Go Go.RowKit
set_option maxRecDepth 4000
theorem predtype_great (a b : Int) : PC Proofs.Tryz.prog 260 [aIv a b] (ab (tooB a b)) := by
 generalize hb : tooB a b = r
 unfold aIv
 refine PC.enter 11 [.tmp 2] [1] Proofs.Tryz.func260 rfl rfl rfl rfl rfl (by simp) (AWp.of ?_); simp only [go_sem]
 repeat (first | ((with_reducible refine AWp.ofC ?_ ?_); exact rfl; simp only [go_sem]) | ((with_reducible refine an ?_ ?_); exact Au))
 refine ret_eq ?_; simp only [go_sem]
 rw [← hb]; rfl
theorem res_leaf {ps : List Pr} {k n p q : Int} {s : ByteArray} {l : List Pd} (h : resB ps (.mk k n p q s l) = true) : (k = 2 → isPB ps.length p = true ∧ knownB ps p s = true) ∧ (k = 3 → isPB ps.length p = true) ∧ (k = 4 → isPB ps.length p = true ∧ isPB ps.length q = true ∧ p ≠ q) := by
 simp only [resB] at h
 refine ⟨fun e => ?_, fun e => ?_, fun e => ?_⟩
 ·rw [if_pos e] at h; simp only [Bool.and_eq_true] at h; exact ⟨h.1.1, h.2⟩
 ·rw [if_neg (by omega), if_pos e] at h; simp only [Bool.and_eq_true] at h; exact h.1.1
 ·rw [if_neg (by omega), if_neg (by omega), if_pos e] at h; simp only [Bool.and_eq_true, Bool.not_eq_true', decide_eq_false_iff_not] at h; exact ⟨h.1.1.1, h.1.1.2, h.1.2⟩
theorem predtype_leaf (ps : List Pr) (hs : Sm ps) (hv : validF ps = true) (k n p q : Int) (s : ByteArray) (hk : 1 ≤ k ∧ k ≤ 4) (hr : resB ps (.mk k n p q s []) = true) :
  PC Proofs.Tryz.prog 259 [aTr ps, aPd (.mk k n p q s [])] (aIv (bdL ps k n p q s).1 (bdL ps k n p q s).2) := by
 obtain ⟨r2, r3, r4⟩ := res_leaf hr
 have hsp : bdL ps k n p q s = if k = 1 then (n, n) else if k = 3 then (0, evN ps p) else if k = 4 then (0, msgN ps p q) else (varLo ps p s, varHi ps p s) := rfl
 have hh := predtype_hull [n] (by simp) (by simp)
 have hms := fun h => predtype_messages ps hs p h q
 have hrg := fun h1 h2 => variable_Range ps hs hv p h1 s h2
 have e1 : minL [n] = n := rfl
 have e2 : maxL [n] = n := rfl
 rw [e1, e2] at hh
 simp only [aInts, List.map_cons, List.map_nil] at hh
 generalize bdL ps k n p q s = i at *
 unfold aIv at *
 have hk4 : k = 1 ∨ k = 3 ∨ k = 4 ∨ k = 2 := by omega
 rcases hk4 with h | h | h | h
 ·rw [if_pos h] at hsp
  refine PC.enter 49 [.cell 4 239] [2, 3, 14] Proofs.Tryz.func259 rfl rfl rfl rfl rfl (by simp) (AWp.of ?_); simp only [go_sem]
  repeat (first | ((with_reducible refine AWp.ofC ?_ ?_); exact rfl; simp only [go_sem]) | ((with_reducible refine an ?_ ?_); exact Au))
  intro b4
  repeat (first | ((with_reducible refine AWp.ofC ?_ ?_); exact rfl; simp only [go_sem, (eq_true h)]) | ((with_reducible refine an ?_ ?_); exact Au))
  repeat ((with_reducible refine an ?_ ?_); exact As)
  refine (hh).val.use ?_; simp only [go_sem]
  repeat (first | ((with_reducible refine AWp.ofC ?_ ?_); exact rfl; simp only [go_sem]) | ((with_reducible refine an ?_ ?_); exact Au))
  refine ret_eq ?_; simp only [go_sem]
  rw [hsp]
 ·have h1 : ¬ k = 1 := by omega
  rw [if_neg h1, if_pos h] at hsp
  obtain ⟨p, rfl, hp⟩ := isPB_nat (r3 h)
  have hgp := getD_map (f := aPr) hp
  rw [evN_get hp] at hsp
  refine PC.enter 49 [.cell 4 239] [2, 3, 14] Proofs.Tryz.func259 rfl rfl rfl rfl rfl (by simp) (AWp.of ?_); simp only [go_sem]
  repeat (first | ((with_reducible refine AWp.ofC ?_ ?_); exact rfl; simp only [go_sem]) | ((with_reducible refine an ?_ ?_); exact Au))
  intro b4
  repeat (first | ((with_reducible refine AWp.ofC ?_ ?_); exact rfl; simp only [go_sem, (eq_true h), h1, hgp]) | ((with_reducible refine an ?_ ?_); exact Au))
  refine ret_eq ?_; simp only [go_sem]
  rw [hsp]
 ·have h1 : ¬ k = 1 := by omega
  have h3 : ¬ k = 3 := by omega
  rw [if_neg h1, if_neg h3, if_pos h] at hsp
  have hms := hms (r4 h).1
  refine PC.enter 49 [.cell 4 239] [2, 3, 14] Proofs.Tryz.func259 rfl rfl rfl rfl rfl (by simp) (AWp.of ?_); simp only [go_sem]
  repeat (first | ((with_reducible refine AWp.ofC ?_ ?_); exact rfl; simp only [go_sem]) | ((with_reducible refine an ?_ ?_); exact Au))
  intro b4
  repeat (first | ((with_reducible refine AWp.ofC ?_ ?_); exact rfl; simp only [go_sem, (eq_true h), h1, h3]) | ((with_reducible refine an ?_ ?_); exact Au))
  repeat ((with_reducible refine an ?_ ?_); exact As)
  refine (hms).val.use ?_; simp only [go_sem]
  repeat (first | ((with_reducible refine AWp.ofC ?_ ?_); exact rfl; simp only [go_sem]) | ((with_reducible refine an ?_ ?_); exact Au))
  refine ret_eq ?_; simp only [go_sem]
  rw [hsp]
 ·have h1 : ¬ k = 1 := by omega
  have h3 : ¬ k = 3 := by omega
  have h4 : ¬ k = 4 := by omega
  rw [if_neg h1, if_neg h3, if_neg h4] at hsp
  have hrg := hrg (r2 h).1 (r2 h).2
  refine PC.enter 49 [.cell 4 239] [2, 3, 14] Proofs.Tryz.func259 rfl rfl rfl rfl rfl (by simp) (AWp.of ?_); simp only [go_sem]
  repeat (first | ((with_reducible refine AWp.ofC ?_ ?_); exact rfl; simp only [go_sem]) | ((with_reducible refine an ?_ ?_); exact Au))
  intro b4
  repeat (first | ((with_reducible refine AWp.ofC ?_ ?_); exact rfl; simp only [go_sem, h1, h3, h4]) | ((with_reducible refine an ?_ ?_); exact Au))
  repeat ((with_reducible refine an ?_ ?_); exact As)
  refine (hrg).val.use ?_; simp only [go_sem]
  repeat (first | ((with_reducible refine AWp.ofC ?_ ?_); exact rfl; simp only [go_sem]) | ((with_reducible refine an ?_ ?_); exact Au))
  refine ret_eq ?_; simp only [go_sem]
  rw [hsp]
set_option maxHeartbeats 4000000 in
theorem predtype_bounds (ps : List Pr) (hs : Sm ps) (hv : validF ps = true) (t : Pd) : szF t ≤ 1000000 → okT ps t = true → t.kind ≤ 8 → PC Proofs.Tryz.prog 237 [aTr ps, aPd t] (aBd (intF ps t)) := by
 induction t using Pd.ind with
 | _ k n p q s l ih =>
 intro hz ht hk
 obtain ⟨o1, o2, o3, o4⟩ := okT_sub ht
 obtain ⟨hpl, _⟩ := loc_len o1
 simp only [Pd.kind] at hk
 have hch := child_le ht (show k ≤ 12 by omega)
 have hsz : szF (.mk k n p q s l) = szL l + 1 := by rw [szF]
 have hll := szL_len l
 have hsp := intF_mk ps k n p q s l
 generalize intF ps (.mk k n p q s l) = I at *
 rcases parts_cases k with ⟨e, hc⟩ | ⟨e, hc⟩ | ⟨e, hc⟩ | e
 ·obtain rfl := len0 (l := l) (by omega)
  have hlf := predtype_leaf ps hs hv k n p q s (by omega) o2
  simp only [List.map_nil, bdN, bdG] at hsp
  have hgr := predtype_great (bdL ps k n p q s).1 (bdL ps k n p q s).2
  generalize bdL ps k n p q s = i at *
  obtain ⟨lo, hi⟩ := i
  unfold aBd aIv at *
  simp only [aPd_mk, List.map_nil] at *
  generalize tooB lo hi = g at *
  refine PC.enter 116 [.cell 4 239, .tmp 5] [2, 3, 6, 7, 75] Proofs.Tryz.func237 rfl rfl rfl rfl rfl (by simp) (AWp.of ?_); simp only [go_sem]
  repeat (first | ((with_reducible refine AWp.ofC ?_ ?_); exact rfl; simp only [go_sem]) | ((with_reducible refine an ?_ ?_); exact Au))
  intro b4
  repeat (first | ((with_reducible refine AWp.ofC ?_ ?_); exact rfl; simp only [go_sem]) | ((with_reducible refine an ?_ ?_); exact Au))
  refine ⟨fun h0 => ?_, fun h0 => ?_⟩
  ·repeat (first | ((with_reducible refine AWp.ofC ?_ ?_); exact rfl; simp only [go_sem]) | ((with_reducible refine an ?_ ?_); exact Au))
   repeat ((with_reducible refine an ?_ ?_); exact As)
   refine (hlf).val.use ?_; simp only [go_sem]
   repeat (first | ((with_reducible refine AWp.ofC ?_ ?_); exact rfl; simp only [go_sem]) | ((with_reducible refine an ?_ ?_); exact Au))
   intro b6 _
   refine AWp.seq ?_
   refine AWp.mix mixed [0, 1, 2, 3, 5] (.step 4 .done .done) (by kernel_rfl) ?_; simp only [go_sem]
   repeat ((with_reducible refine an ?_ ?_); exact As)
   refine GCall.use (ab g) (fun _ => ⟨At, (hgr).val.use ⟨rfl, rfl⟩⟩) ?_; simp only [go_sem]
   repeat ((with_reducible refine an ?_ ?_); exact As)
   repeat (first | ((with_reducible refine AWp.ofC ?_ ?_); exact rfl; simp only [go_sem]) | ((with_reducible refine an ?_ ?_); exact Au))
   refine ret_eq ?_; simp only [go_sem]
   rw [hsp]
  ·exact absurd rfl h0
 ·obtain ⟨a, rfl⟩ := len1 (l := l) (by omega)
  obtain ⟨c1, c2⟩ := hch a (by simp)
  have hza := szL_mem (l := [a]) (x := a) (by simp)
  have hca := ih a (by simp) (by omega) c1 c2
  have hok := intF_ok ps a
  simp only [List.map_cons, List.map_nil, bdN] at hsp
  generalize intF ps a = A at *
  obtain ⟨a1, a2, a3⟩ := A
  obtain ⟨ka, na, pa, qa, sa, la⟩ := a
  have k5 : k = 5 := by omega
  simp only [bd2, if_pos k5, bdG] at hsp
  have hgr := predtype_great (-a2) (-a1)
  generalize tooB (-a2) (-a1) = g at *
  unfold aBd aIv at *
  simp only [aPd_mk, List.map_cons, List.map_nil] at *
  refine PC.enter 116 [.cell 4 239, .tmp 5] [2, 3, 6, 7, 75] Proofs.Tryz.func237 rfl rfl rfl rfl rfl (by simp) (AWp.of ?_); simp only [go_sem]
  repeat (first | ((with_reducible refine AWp.ofC ?_ ?_); exact rfl; simp only [go_sem]) | ((with_reducible refine an ?_ ?_); exact Au))
  intro b4
  repeat (first | ((with_reducible refine AWp.ofC ?_ ?_); exact rfl; simp only [go_sem]) | ((with_reducible refine an ?_ ?_); exact Au))
  intro _
  refine AWp.seq ?_
  refine AWp.mix mixed [0, 1, 2, 3, 4, 5, 6, 7, 8, 11] (.step 9 (.step 10 .done .done) .done) (by kernel_rfl) ?_; simp only [go_sem]
  repeat ((with_reducible refine an ?_ ?_); exact As)
  refine GCall.use (.tup [.agg [ai a1, ai a2], ab a3]) (fun _ => ⟨At, (hca).val.use ⟨rfl, rfl⟩⟩) ?_; simp only [go_sem]
  repeat ((with_reducible refine an ?_ ?_); exact As)
  intro b7 h47
  clear ih o4 hch
  repeat (first | ((with_reducible refine AWp.ofC ?_ ?_); exact rfl; simp only [go_sem]) | ((with_reducible refine an ?_ ?_); exact Au))
  intro b9 h49
  have n1 : ¬ b4 = b9 := by omega
  have n2 : ¬ b9 = b4 := by omega
  repeat (first | ((with_reducible refine AWp.ofC ?_ ?_); exact rfl; simp only [go_sem]) | ((with_reducible refine an ?_ ?_); exact Au))
  intro _
  repeat (first | ((with_reducible refine AWp.ofC ?_ ?_); exact rfl; simp only [go_sem, n1]) | ((with_reducible refine an ?_ ?_); exact Au))
  refine ⟨fun h1 => ?_, fun h1 => ?_⟩
  ·repeat (first | ((with_reducible refine AWp.ofC ?_ ?_); exact rfl; simp only [go_sem]) | ((with_reducible refine an ?_ ?_); exact Au))
   refine ret_eq ?_; simp only [go_sem]
   simp only [n1, go_sem]
   rw [hsp, if_neg (by rw [h1]; decide)]
  rw [if_pos h1] at hsp
  have hok := hok h1
  repeat (first | ((with_reducible refine AWp.ofC ?_ ?_); exact rfl; simp only [go_sem]) | ((with_reducible refine an ?_ ?_); exact Au))
  intro b11 m1 m2
  have n3 : ¬ b4 = b11 := by omega
  have n4 : ¬ b11 = b4 := by omega
  have n5 : ¬ b9 = b11 := by omega
  have n6 : ¬ b11 = b9 := by omega
  repeat (first | ((with_reducible refine AWp.ofC ?_ ?_); exact rfl; simp only [go_sem, (eq_true k5), n4, n6]) | ((with_reducible refine an ?_ ?_); exact Au))
  refine AWp.view [true] [(11, .rp 2 [.agg [ai (-a2), ai (-a1)]] 0 0)] (LVw.refl _) (fun p hp => by simp only [List.mem_singleton] at hp; subst hp; exact Vw.ofLp (if_pos rfl)) ?_
  simp only [go_sem]
  refine AWp.seq ?_
  refine AWp.mix mixed [0, 1, 2, 3, 5] (.step 4 .done .done) (by kernel_rfl) ?_; simp only [go_sem]
  repeat ((with_reducible refine an ?_ ?_); exact As)
  refine GCall.use (ab g) (fun _ => ⟨At, (hgr).val.use ⟨rfl, rfl⟩⟩) ?_; simp only [go_sem, n1]
  repeat ((with_reducible refine an ?_ ?_); exact As)
  repeat (first | ((with_reducible refine AWp.ofC ?_ ?_); exact rfl; simp only [go_sem]) | ((with_reducible refine an ?_ ?_); exact Au))
  refine ret_eq ?_; simp only [go_sem]
  simp only [n1, go_sem]
  rw [hsp]
 ·obtain ⟨a, b, rfl⟩ := len2 (l := l) (by omega)
  have k5 : ¬ k = 5 := by omega
  obtain ⟨c1, c2⟩ := hch a (by simp)
  obtain ⟨c3, c4⟩ := hch b (by simp)
  have hza := szL_mem (l := [a, b]) (x := a) (by simp)
  have hzb := szL_mem (l := [a, b]) (x := b) (by simp)
  have hca := ih a (by simp) (by omega) c1 c2
  have hcc := ih b (by simp) (by omega) c3 c4
  have hoka := intF_ok ps a
  have hokb := intF_ok ps b
  simp only [List.map_cons, List.map_nil, bdN] at hsp
  clear ih o4 hch
  generalize intF ps a = A at *
  generalize intF ps b = B at *
  obtain ⟨a1, a2, a3⟩ := A
  obtain ⟨e1, e2, e3⟩ := B
  obtain ⟨ka, na, pa, qa, sa, la⟩ := a
  obtain ⟨kb, nb, pb, qb, sb, lb⟩ := b
  unfold aBd aIv at *
  simp only [aPd_mk, List.map_cons, List.map_nil] at *
  refine PC.enter 116 [.cell 4 239, .tmp 5] [2, 3, 6, 7, 75] Proofs.Tryz.func237 rfl rfl rfl rfl rfl (by simp) (AWp.of ?_); simp only [go_sem]
  repeat (first | ((with_reducible refine AWp.ofC ?_ ?_); exact rfl; simp only [go_sem]) | ((with_reducible refine an ?_ ?_); exact Au))
  intro b4
  repeat (first | ((with_reducible refine AWp.ofC ?_ ?_); exact rfl; simp only [go_sem]) | ((with_reducible refine an ?_ ?_); exact Au))
  intro _
  refine AWp.seq ?_
  refine AWp.mix mixed [0, 1, 2, 3, 4, 5, 6, 7, 8, 11] (.step 9 (.step 10 .done .done) .done) (by kernel_rfl) ?_; simp only [go_sem]
  repeat ((with_reducible refine an ?_ ?_); exact As)
  refine GCall.use (.tup [.agg [ai a1, ai a2], ab a3]) (fun _ => ⟨At, (hca).val.use ⟨rfl, rfl⟩⟩) ?_; simp only [go_sem]
  repeat ((with_reducible refine an ?_ ?_); exact As)
  intro b7 h47
  repeat (first | ((with_reducible refine AWp.ofC ?_ ?_); exact rfl; simp only [go_sem]) | ((with_reducible refine an ?_ ?_); exact Au))
  intro b9 h49
  have n1 : ¬ b4 = b9 := by omega
  have n2 : ¬ b9 = b4 := by omega
  repeat (first | ((with_reducible refine AWp.ofC ?_ ?_); exact rfl; simp only [go_sem]) | ((with_reducible refine an ?_ ?_); exact Au))
  refine ⟨fun _ => ?_, fun h => absurd rfl h⟩
  refine AWp.mix mixed [0, 1, 2, 3, 4, 5, 6, 7, 8, 10] (.step 9 .done .done) (by kernel_rfl) ?_; simp only [go_sem]
  repeat ((with_reducible refine an ?_ ?_); exact As)
  refine GCall.use (.tup [.agg [ai e1, ai e2], ab e3]) (fun _ => ⟨At, (hcc).val.use ⟨rfl, rfl⟩⟩) ?_; simp only [go_sem, n2]
  repeat ((with_reducible refine an ?_ ?_); exact As)
  repeat (first | ((with_reducible refine AWp.ofC ?_ ?_); exact rfl; simp only [go_sem, n1]) | ((with_reducible refine an ?_ ?_); exact Au))
  refine ⟨fun h1 => ?_, fun h1 => ?_⟩
  ·repeat (first | ((with_reducible refine AWp.ofC ?_ ?_); exact rfl; simp only [go_sem]) | ((with_reducible refine an ?_ ?_); exact Au))
   refine ret_eq ?_; simp only [go_sem]
   simp only [n1, go_sem]
   rw [hsp, if_neg (by rintro ⟨x1, x2⟩; rw [x1, x2] at h1; simp at h1)]
  intro h2
  rw [if_pos ⟨h1, h2⟩] at hsp
  have hoka := hoka h1
  have hokb := hokb h2
  repeat (first | ((with_reducible refine AWp.ofC ?_ ?_); exact rfl; simp only [go_sem]) | ((with_reducible refine an ?_ ?_); exact Au))
  intro b11 m1 m2
  have n3 : ¬ b4 = b11 := by omega
  have n4 : ¬ b11 = b4 := by omega
  have n5 : ¬ b9 = b11 := by omega
  have n6 : ¬ b11 = b9 := by omega
  have fin : ∀ (lo hi : Int), bd2 k (a1, a2, a3) (e1, e2, e3) = (lo, hi) → I = (lo, hi, !tooB lo hi) := fun lo hi h => by rw [hsp, h]; rfl
  clear hsp
  by_cases k6 : k = 6
  ·have fin := fin (a1 + e1) (a2 + e2) (by unfold bd2; rw [if_neg k5, if_pos k6])
   have hgr := predtype_great (a1 + e1) (a2 + e2)
   generalize tooB (a1 + e1) (a2 + e2) = g at *
   unfold aIv at hgr
   repeat (first | ((with_reducible refine AWp.ofC ?_ ?_); exact rfl; simp only [go_sem, (eq_true k6), k5, n2, n4, n5, n6]) | ((with_reducible refine an ?_ ?_); exact Au))
   refine AWp.view [true] [(11, .rp 2 [.agg [ai (a1 + e1), ai (a2 + e2)]] 0 0)] (LVw.refl _) (fun p hp => by simp only [List.mem_singleton] at hp; subst hp; exact Vw.ofLp (if_pos rfl)) ?_
   simp only [go_sem]
   refine AWp.seq ?_
   refine AWp.mix mixed [0, 1, 2, 3, 5] (.step 4 .done .done) (by kernel_rfl) ?_; simp only [go_sem]
   repeat ((with_reducible refine an ?_ ?_); exact As)
   refine GCall.use (ab g) (fun _ => ⟨At, (hgr).val.use ⟨rfl, rfl⟩⟩) ?_; simp only [go_sem, n1]
   repeat ((with_reducible refine an ?_ ?_); exact As)
   repeat (first | ((with_reducible refine AWp.ofC ?_ ?_); exact rfl; simp only [go_sem]) | ((with_reducible refine an ?_ ?_); exact Au))
   refine ret_eq ?_; simp only [go_sem]
   simp only [n1, go_sem]
   rw [fin]
  by_cases k7 : k = 7
  ·have fin := fin (a1 - e2) (a2 - e1) (by unfold bd2; rw [if_neg k5, if_neg k6, if_pos k7])
   have hgr := predtype_great (a1 - e2) (a2 - e1)
   generalize tooB (a1 - e2) (a2 - e1) = g at *
   unfold aIv at hgr
   repeat (first | ((with_reducible refine AWp.ofC ?_ ?_); exact rfl; simp only [go_sem, (eq_true k7), k5, k6, n2, n4, n5, n6]) | ((with_reducible refine an ?_ ?_); exact Au))
   refine AWp.view [true] [(11, .rp 2 [.agg [ai (a1 - e2), ai (a2 - e1)]] 0 0)] (LVw.refl _) (fun p hp => by simp only [List.mem_singleton] at hp; subst hp; exact Vw.ofLp (if_pos rfl)) ?_
   simp only [go_sem]
   refine AWp.seq ?_
   refine AWp.mix mixed [0, 1, 2, 3, 5] (.step 4 .done .done) (by kernel_rfl) ?_; simp only [go_sem]
   repeat ((with_reducible refine an ?_ ?_); exact As)
   refine GCall.use (ab g) (fun _ => ⟨At, (hgr).val.use ⟨rfl, rfl⟩⟩) ?_; simp only [go_sem, n1]
   repeat ((with_reducible refine an ?_ ?_); exact As)
   repeat (first | ((with_reducible refine AWp.ofC ?_ ?_); exact rfl; simp only [go_sem]) | ((with_reducible refine an ?_ ?_); exact Au))
   refine ret_eq ?_; simp only [go_sem]
   simp only [n1, go_sem]
   rw [fin]
  have hp1 := predtype_product a1 e1 (by omega) (by omega)
  have hp2 := predtype_product a1 e2 (by omega) (by omega)
  have hp3 := predtype_product a2 e1 (by omega) (by omega)
  have hp4 := predtype_product a2 e2 (by omega) (by omega)
  have fin := fin _ _ (by unfold bd2; rw [if_neg k5, if_neg k6, if_neg k7])
  dsimp only at fin
  generalize timesF a1 e1 = t1 at *
  generalize timesF a1 e2 = t2 at *
  generalize timesF a2 e1 = t3 at *
  generalize timesF a2 e2 = t4 at *
  have hh := predtype_hull [t1, t2, t3, t4] (by simp) (by simp)
  generalize minL [t1, t2, t3, t4] = lo at *
  generalize maxL [t1, t2, t3, t4] = hi at *
  have hgr := predtype_great lo hi
  generalize tooB lo hi = g at *
  simp only [aInts, List.map_cons, List.map_nil] at hh
  unfold aIv at hgr hh
  repeat (first | ((with_reducible refine AWp.ofC ?_ ?_); exact rfl; simp only [go_sem, k5, k6, k7, n2, n4, n5, n6]) | ((with_reducible refine an ?_ ?_); exact Au))
  refine AWp.view [false, true] [(9, .rp 2 [.agg [ai e1, ai e2]] 0 0)] (LVw.refl _) (fun p hp => by simp only [List.mem_singleton] at hp; subst hp; exact Vw.ofLp (if_pos rfl)) ?_
  simp only [go_sem]
  refine AWp.mix mixed [0, 1, 2, 3, 4, 5, 6, 7, 8, 9, 10, 11, 12, 13, 14, 15, 16, 17, 18, 19] (.step 20 (.step 21 (.step 22 .done .done) .done) .done) (by kernel_rfl) ?_; simp only [go_sem]
  repeat ((with_reducible refine an ?_ ?_); exact As)
  refine GCall.use (ai t1) (fun _ => ⟨At, (hp1).val.use ⟨rfl, rfl⟩⟩) ?_; simp only [go_sem]
  repeat ((with_reducible refine an ?_ ?_); exact As)
  refine GCall.use (ai t2) (fun _ => ⟨At, (hp2).val.use ⟨rfl, rfl⟩⟩) ?_; simp only [go_sem]
  repeat ((with_reducible refine an ?_ ?_); exact As)
  refine GCall.use (ai t3) (fun _ => ⟨At, (hp3).val.use ⟨rfl, rfl⟩⟩) ?_; simp only [go_sem]
  repeat ((with_reducible refine an ?_ ?_); exact As)
  refine GCall.use (ai t4) (fun _ => ⟨At, (hp4).val.use ⟨rfl, rfl⟩⟩) ?_; simp only [go_sem]
  repeat ((with_reducible refine an ?_ ?_); exact As)
  repeat ((with_reducible refine an ?_ ?_); exact As)
  refine (hh).val.use ?_; simp only [go_sem, n4]
  repeat ((with_reducible refine an ?_ ?_); exact As)
  refine AWp.view [true] [(11, .rp 2 [.agg [ai lo, ai hi]] 0 0)] (LVw.refl _) (fun p hp => by simp only [List.mem_singleton] at hp; subst hp; exact Vw.ofLp (if_pos rfl)) ?_
  simp only [go_sem]
  refine AWp.seq ?_
  refine AWp.mix mixed [0, 1, 2, 3, 5] (.step 4 .done .done) (by kernel_rfl) ?_; simp only [go_sem]
  repeat ((with_reducible refine an ?_ ?_); exact As)
  refine GCall.use (ab g) (fun _ => ⟨At, (hgr).val.use ⟨rfl, rfl⟩⟩) ?_; simp only [go_sem]
  repeat ((with_reducible refine an ?_ ?_); exact As)
  repeat (first | ((with_reducible refine AWp.ofC ?_ ?_); exact rfl; simp only [go_sem]) | ((with_reducible refine an ?_ ?_); exact Au))
  refine ret_eq ?_; simp only [go_sem]
  rw [fin]
 ·omega
end Go.AL
end
section
namespace Go.AL
open Go Go.RowKit
set_option maxRecDepth 4000
theorem ref25_Value (ps : List Pr) (hs : Sm ps) (p : Nat) (hp : p < ps.length) (v : Nat) (hv : v < ps[p].vars.length) (k : Nat) (hk : k ≤ ps[p].evs.length) (ha : AsgOk ps[p]) (hd : AsgDis ps[p]) :
  PC Proofs.Tryz.prog 224 [aTr ps, ai p, ai v, ai k] (ai ((stateAt ps[p] k)[v]'(by rw [stateAt_length]; exact hv))) := by
 have hm := List.getElem_mem hp
 have hel := hs.evs _ hm
 have hl := hs.procs
 have hvl := hs.vars _ hm
 have hgP := getD_map (f := aPr) hp
 have hgv := getD_map (f := aVar) hv
 have hst : ∀ j, v < (stateAt ps[p] j).length := fun j => by rw [stateAt_length]; exact hv
 generalize hR : (stateAt ps[p] k)[v]'(hst k) = R at *
 refine PC.enter 56 [.tmp 8] [4] Proofs.Tryz.func224 rfl rfl rfl rfl rfl (by simp) (AWp.of ?_); simp only [go_sem]
 repeat (first | ((with_reducible refine AWp.ofC ?_ ?_); exact rfl; simp only [go_sem]) | ((with_reducible refine an ?_ ?_); exact Au))
 refine AWp.block (AWp.loopN [9] [1, 2, 4] (fun m vs L => L = [] ∧ m ≤ k ∧ vs = [ai ((m : Int) - 1)] ∧ (stateAt ps[p] m)[v]'(hst m) = R) k ⟨rfl, by omega, rfl, hR⟩ ?_)
 rintro m vs L - ⟨rfl, hmk, rfl, hmR⟩
 simp only [go_sem]
 repeat (first | ((with_reducible refine AWp.ofC ?_ ?_); exact rfl; simp only [go_sem]) | ((with_reducible refine an ?_ ?_); exact Au))
 refine ⟨fun h1 => ?_, fun h1 => ?_⟩
 ·obtain ⟨i, rfl⟩ : ∃ i, m = i + 1 := ⟨m - 1, by omega⟩
  have hi : i < ps[p].evs.length := by omega
  have hie : (((i + 1 : Nat) : Int) - 1).toNat = i := by omega
  have hin : ((i + 1 : Nat) : Int) - 1 = (i : Int) := by omega
  have hge := getD_map (f := aEv) hi
  have hal := hs.asg _ hm _ (List.getElem_mem hi)
  have hao : ∀ a ∈ ps[p].evs[i].asg, 0 ≤ a.1 := fun a h => (ha _ (List.getElem_mem hi) a h).1
  have hdi := hd _ (List.getElem_mem hi)
  have hsu := stateAt_succ ps[p] i hi
  have hmR' : (assignL (stateAt ps[p] i) ps[p].evs[i].asg)[v]? = some R := by rw [← hsu, List.getElem?_eq_getElem (hst _), hmR]
  have hhit := assignL_hit (v := v) ps[p].evs[i].asg (stateAt ps[p] i) (hst i) hao hdi
  have hnone := assignL_none (v := v) ps[p].evs[i].asg (stateAt ps[p] i)
  rw [hin]
  repeat (first | ((with_reducible refine AWp.ofC ?_ ?_); exact rfl; simp only [go_sem, hgP, hge]) | ((with_reducible refine an ?_ ?_); exact Au))
  refine AWp.block (AWp.count 11 ps[p].evs[i].asg.length [] [1, 2, 4, 9, 10] (fun j vs L => L = [] ∧ ∀ b (hb : b < ps[p].evs[i].asg.length), b < j → ps[p].evs[i].asg[b].1 ≠ v) rfl rfl ⟨rfl, by omega⟩ ?_)
  rintro j vs L hj - ⟨rfl, hJ⟩
  simp only [go_sem]
  repeat (first | ((with_reducible refine AWp.ofC ?_ ?_); exact rfl; simp only [go_sem]) | ((with_reducible refine an ?_ ?_); exact Au))
  refine ⟨fun h2 => ?_, fun h2 => ?_⟩
  ·have hjl : j < ps[p].evs[i].asg.length := by omega
   have hga := getD_map (f := aAsg) hjl
   repeat (first | ((with_reducible refine AWp.ofC ?_ ?_); exact rfl; simp only [go_sem, hga]) | ((with_reducible refine an ?_ ?_); exact Au))
   refine ⟨fun h3 => ?_, fun h3 => ?_⟩
   ·repeat (first | ((with_reducible refine AWp.ofC ?_ ?_); exact rfl; simp only [go_sem]) | ((with_reducible refine an ?_ ?_); exact Au))
    refine ret_eq ?_; simp only [go_sem]
    have := hhit j hjl h3
    rw [this] at hmR'
    cases hmR'; rfl
   ·repeat (first | ((with_reducible refine AWp.ofC ?_ ?_); exact rfl; simp only [go_sem]) | ((with_reducible refine an ?_ ?_); exact Au))
    refine ⟨_, List.Sublist.refl _, rfl, fun b hb hbj => ?_⟩
    by_cases e : b = j
    ·subst e; exact h3
    ·exact hJ b hb (by omega)
  ·repeat (first | ((with_reducible refine AWp.ofC ?_ ?_); exact rfl; simp only [go_sem]) | ((with_reducible refine an ?_ ?_); exact Au))
   have hno := hnone fun a haa => by
    obtain ⟨b, hb, rfl⟩ := List.getElem_of_mem haa
    exact ⟨hao _ haa, hJ b hb (by omega)⟩
   rw [hno] at hmR'
   rw [List.getElem?_eq_getElem (hst i)] at hmR'
   refine ⟨_, List.Sublist.refl _, i, by omega, rfl, by omega, rfl, by simpa using hmR'⟩
 ·have e : m = 0 := by omega
  subst e
  have h0 : (stateAt ps[p] 0)[v]'(hst 0) = ps[p].vars[v].2 := by simp [stateAt]
  rw [h0] at hmR
  repeat (first | ((with_reducible refine AWp.ofC ?_ ?_); exact rfl; simp only [go_sem, hgP, hgv]) | ((with_reducible refine an ?_ ?_); exact Au))
  refine ret_eq ?_; simp only [go_sem]
  rw [← hmR]
end Go.AL
end
