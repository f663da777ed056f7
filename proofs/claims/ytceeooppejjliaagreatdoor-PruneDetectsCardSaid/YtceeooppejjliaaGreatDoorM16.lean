/- Texts of this claim's proof: WEx, WSs, WSp, WRr, WEy, WPq. No condition. -/
import Derived.Test.YtceeooppejjliaaGreatDoorM15
import Derived.Test.YtceeooppejjliaaGreatDoorM11
import Derived.Test.YtceeooppejjliaaGreatDoorM8
section
namespace Go.AL
open Go Go.RowKit
set_option maxRecDepth 4000
theorem ref37_Fault (ps : List Pr) (hs : Sm ps) (ts : List Pd) (hz : ∀ t ∈ ts, szF t ≤ 1000000) (htl : ts.length ≤ 1000000) : PC Proofs.Tryz.prog 26 [aTr ps, .sl 6 (ts.map aPd)] (ai (conF ps ts)) := by
 have h1 := ref12_Valid ps hs
 have hl := hs.procs
 by_cases hv : validF ps = true ∧ ts.length = ps.length
 ·have hvl : (ts.length : Int) = ps.length := by omega
  rw [hv.1] at h1
  have hhit := fun p hp => conF_hit hv (p := p) hp
  have hzero := conF_zero hv
  generalize conF ps ts = C at *
  refine PC.enter 34 [.tmp 4] [2] Proofs.Tryz.func26 rfl rfl rfl rfl rfl (by simp) (AWp.of ?_); simp only [go_sem]
  repeat (first | ((with_reducible refine AWp.ofC ?_ ?_); exact rfl; simp only [go_sem]) | ((with_reducible refine an ?_ ?_); exact Au))
  repeat ((with_reducible refine an ?_ ?_); exact As)
  refine (h1).val.use ?_; simp only [go_sem, hvl]
  repeat (first | ((with_reducible refine AWp.ofC ?_ ?_); exact rfl; simp only [go_sem]) | ((with_reducible refine an ?_ ?_); exact Au))
  refine AWp.block (AWp.count 5 ts.length [] [1, 2] (fun p vs L => L = [] ∧ ∀ q (hq : q < ts.length), q < p → lclF ps q 0 ts[q] = 0) rfl rfl ⟨rfl, fun q hq h => by omega⟩ ?_)
  rintro p vs L hp - ⟨rfl, hJ⟩
  simp only [go_sem]
  repeat (first | ((with_reducible refine AWp.ofC ?_ ?_); exact rfl; simp only [go_sem]) | ((with_reducible refine an ?_ ?_); exact Au))
  refine ⟨fun h2 => ?_, fun h2 => ?_⟩
  ·have hpt : p < ts.length := by omega
   have hgt := getD_map (f := aPd) hpt
   have hlf := ref29_LocalFault ps hs p 0 ts[p] (hz _ (List.getElem_mem hpt))
   have hh := hhit p hpt hJ
   generalize hE : lclF ps p 0 ts[p] = e at *
   generalize hT : ts[p] = t at *
   obtain ⟨k0, n, pp, q, s, l⟩ := t
   simp only [aPd_mk] at *
   refine AWp.seq (AWp.block (AWp.seq ?_))
   refine AWp.mix mixed [0, 1, 2, 3, 4, 5, 6, 7] .done (by kernel_rfl) ?_; simp only [go_sem, hgt]
   repeat ((with_reducible refine an ?_ ?_); exact As)
   repeat ((with_reducible refine an ?_ ?_); exact As)
   refine GCall.use (ai e) (fun _ => ⟨At, (hlf).val.use ⟨rfl, rfl⟩⟩) ?_; simp only [go_sem]
   repeat ((with_reducible refine an ?_ ?_); exact As)
   repeat (first | ((with_reducible refine AWp.ofC ?_ ?_); exact rfl; simp only [go_sem]) | ((with_reducible refine an ?_ ?_); exact Au))
   refine ⟨fun h3 => ?_, fun h3 => ?_⟩
   ·repeat (first | ((with_reducible refine AWp.ofC ?_ ?_); exact rfl; simp only [go_sem]) | ((with_reducible refine an ?_ ?_); exact Au))
    refine ret_eq ?_; simp only [go_sem]
    rw [hh h3]
   ·repeat (first | ((with_reducible refine AWp.ofC ?_ ?_); exact rfl; simp only [go_sem]) | ((with_reducible refine an ?_ ?_); exact Au))
    refine ⟨_, List.Sublist.refl _, rfl, fun j hj hjp => ?_⟩
    by_cases ej : j = p
    ·subst ej; rw [hT, hE, h3]
    ·exact hJ j hj (by omega)
  ·repeat (first | ((with_reducible refine AWp.ofC ?_ ?_); exact rfl; simp only [go_sem]) | ((with_reducible refine an ?_ ?_); exact Au))
   refine ret_eq ?_; simp only [go_sem]
   rw [hzero fun q hq => hJ q hq (by omega)]
 ·rw [conF_bad hv]
  by_cases hv1 : validF ps = true
  ·have hvl : ¬ (ts.length : Int) = ps.length := fun e => hv ⟨hv1, by omega⟩
   rw [hv1] at h1
   refine PC.enter 34 [.tmp 4] [2] Proofs.Tryz.func26 rfl rfl rfl rfl rfl (by simp) (AWp.of ?_); simp only [go_sem]
   repeat (first | ((with_reducible refine AWp.ofC ?_ ?_); exact rfl; simp only [go_sem]) | ((with_reducible refine an ?_ ?_); exact Au))
   repeat ((with_reducible refine an ?_ ?_); exact As)
   refine (h1).val.use ?_; simp only [go_sem, hvl]
   repeat (first | ((with_reducible refine AWp.ofC ?_ ?_); exact rfl; simp only [go_sem]) | ((with_reducible refine an ?_ ?_); exact Au))
   refine ret_eq ?_; simp only [go_sem]
  ·rw [show validF ps = false by simpa using hv1] at h1
   refine PC.enter 34 [.tmp 4] [2] Proofs.Tryz.func26 rfl rfl rfl rfl rfl (by simp) (AWp.of ?_); simp only [go_sem]
   repeat (first | ((with_reducible refine AWp.ofC ?_ ?_); exact rfl; simp only [go_sem]) | ((with_reducible refine an ?_ ?_); exact Au))
   repeat ((with_reducible refine an ?_ ?_); exact As)
   refine (h1).val.use ?_; simp only [go_sem]
   repeat (first | ((with_reducible refine AWp.ofC ?_ ?_); exact rfl; simp only [go_sem]) | ((with_reducible refine an ?_ ?_); exact Au))
   refine ret_eq ?_; simp only [go_sem]
end Go.AL
end
section
namespace Go.AL
open Go Go.RowKit
set_option maxRecDepth 4000
def anilp : AV := .v (.pointer none)
def startK (ps : List Pr) (ts : List Pd) (r : AV) (L : AHeap) : Prop :=
 (conF ps ts = 0 ∧ ∃ bb bn, ¬ bn = bb ∧ r = .tup [.lp bb 3 0 0, ai 0] ∧ L = boardL (elimOf ps ts) (fun _ => 0) bb bn) ∨ (conF ps ts ≠ 0 ∧ r = .tup [.v (.pointer none), ai (conF ps ts)] ∧ L = [])
def okK (E : Elim) (m : Nat) : List AV := (List.range m).map fun q => .sl 1 (okL E q)
theorem okK_len (E : Elim) (m : Nat) : (okK E m).length = m := by simp [okK]
theorem okK_succ (E : Elim) (m : Nat) : okK E (m + 1) = okK E m ++ [.sl 1 (okL E m)] := by unfold okK; rw [List.range_succ, List.map_append]; rfl
theorem truths_row {ps : List Pr} {ts : List Pd} {p : Nat} (hp : p < ts.length) (hpp : p < ps.length) : (truthsF ps p ts[p]).map ab = okL (elimOf ps ts) p := by
 rw [truthsF_nat hpp, List.map_map]
 unfold okL
 rw [show (elimOf ps ts).top p = ps[p].evs.length from nev_get hpp]
 refine List.map_congr_left fun k _ => ?_
 show ab _ = ab (match ts[p]? with | some t => lclT ps p t k | none => true)
 rw [List.getElem?_eq_getElem hp]
theorem conj_start (ps : List Pr) (hs : Sm ps) (ts : List Pd) (hz : ∀ t ∈ ts, szF t ≤ 1000000) (htl : ts.length ≤ 1000000) : MCalls Proofs.Tryz.prog 78 [aTr ps, .sl 6 (ts.map aPd)] [] (startK ps ts) := by
 have h1 := trace_Valid ps hs
 have hl := hs.procs
 by_cases hv : validF ps = true ∧ ts.length = ps.length
 ·have hvl : (ts.length : Int) = ps.length := by omega
  have hl1 := (valid_len hv.1).1
  rw [hv.1] at h1
  have hhit := fun p hp => conF_hit hv (p := p) hp
  have hzero := conF_zero hv
  have hnd := conj_needs ps hs hv.1 ts
  have hEn : (elimOf ps ts).n = ps.length := rfl
  have hrow := fun p (hp : p < ts.length) => truths_row (ps := ps) hp (by omega)
  have hB : ∀ f bb bn, boardL (elimOf ps ts) f bb bn = [(bb, .row 116 3 [.agg [.sl 1 (needT (elimOf ps ts)), .sl 1 (okM (elimOf ps ts)), .ls bn 1 0 (elimOf ps ts).n (elimOf ps ts).n]] 1), (bn, .row 3 1 (dnA (elimOf ps ts).n f) (elimOf ps ts).n)] := fun f bb bn => rfl
  unfold startK
  simp only [hB]
  clear hB
  generalize elimOf ps ts = E at *
  generalize conF ps ts = C at *
  refine MCalls.enter' 61 [.tmp 4, .tmp 5] [2, 8, 50] Proofs.Tryz.func78 rfl rfl rfl rfl rfl (by simp) (AWp.of ?_); simp only [go_sem]
  repeat (first | ((with_reducible refine AWp.ofC ?_ ?_); exact rfl; simp only [go_sem]) | ((with_reducible refine an ?_ ?_); exact Au))
  repeat ((with_reducible refine an ?_ ?_); exact As)
  refine (h1).val.use ?_; simp only [go_sem, hvl]
  repeat (first | ((with_reducible refine AWp.ofC ?_ ?_); exact rfl; simp only [go_sem, hvl]) | ((with_reducible refine an ?_ ?_); exact Au))
  intro bn
  repeat (first | ((with_reducible refine AWp.ofC ?_ ?_); exact rfl; simp only [go_sem]) | ((with_reducible refine an ?_ ?_); exact Au))
  intro bb g2
  have n1 : ¬ bb = bn := by omega
  have n2 : ¬ bn = bb := by omega
  repeat (first | ((with_reducible refine AWp.ofC ?_ ?_); exact rfl; simp only [go_sem]) | ((with_reducible refine an ?_ ?_); exact Au))
  refine AWp.range' ts.length [] [2, 6, 27, 28] (fun p vs L => ∃ v Lq, L = Lq ++ [(bb, .row 116 3 [.agg [anil, v, .ls bn 1 0 ps.length ps.length]] 1), (bn, .row 3 1 (List.replicate ps.length (ai 0)) ps.length)] ∧ AppSt 69 1 (okK E p) v Lq ∧ (∀ x ∈ Lq, x.1 ≠ bb ∧ x.1 ≠ bn) ∧ ∀ q (hq : q < ts.length), q < p → lclF ps q 0 ts[q] = 0) (by omega) rfl rfl rfl ⟨anil, [], rfl, .nil, by simp, fun q hq h => by omega⟩ ?_ ?_
  ·rintro p vs L hp - ⟨v, Lq, rfl, hA, hq, hJ⟩
   have hgt := getD_map (f := aPd) hp
   have htr := evaluate_Truths ps hs p ts[p] (hz _ (List.getElem_mem hp))
   have hro := hrow p hp
   have hh := hhit p hp hJ
   have hyl := okK_len E p
   rw [okK_succ]
   unfold aTruths at htr
   rw [Int.toNat_natCast, hro] at htr
   have hJ1 : lclF ps p 0 ts[p] = 0 → ∀ q (hq : q < ts.length), q < p + 1 → lclF ps q 0 ts[q] = 0 := fun e q hq h => by
    by_cases e2 : q = p
    ·subst e2; exact e
    ·exact hJ q hq (by omega)
   generalize lclF ps p 0 ts[p] = e at *
   generalize ts[p] = t at *
   generalize okL E p = ol at *
   generalize okK E p = ys at *
   obtain ⟨k0, n, pp, q0, s, l⟩ := t
   simp only [aPd_mk] at *
   have hfo := hA.fo
   by_cases he : e = 0
   ·rw [if_pos he] at htr
    subst he
    rcases hA.inv with ⟨e1, rfl, rfl⟩ | ⟨bq, cap, rfl, rfl⟩
    ·simp only [go_sem, List.nil_append]
     repeat (first | ((with_reducible refine AWp.ofC ?_ ?_); exact rfl; simp only [go_sem, hgt]) | ((with_reducible refine an ?_ ?_); exact Au))
     intros
     repeat (first | ((with_reducible refine AWp.ofC ?_ ?_); exact rfl; simp only [go_sem]) | ((with_reducible refine an ?_ ?_); exact Au))
     repeat ((with_reducible refine an ?_ ?_); exact As)
     refine (htr).val.use ?_; simp only [go_sem]
     repeat (first | ((with_reducible refine AWp.ofC ?_ ?_); exact rfl; simp only [go_sem, n1]) | ((with_reducible refine an ?_ ?_); exact Au))
     intro b' cap' g8 g9 _
     have n3 : ¬ b' = bb ∧ ¬ b' = bn := by omega
     have n4 : ¬ bb = b' := by omega
     simp only [go_sem, n4]
     refine ⟨_, List.Sublist.refl _, .ls b' 1 0 1 cap', [(b', .row 69 1 [.sl 1 ol] cap')], rfl, ?_, ?_, hJ1 rfl⟩
     ·rw [e1]; exact .row _ _ _
     ·intro y hy; simp only [List.mem_singleton] at hy; subst hy; exact n3
    ·have nq := hq (bq, .row 69 1 ys cap) (by simp)
     simp only at nq
     have nq1 : ¬ bb = bq := fun e => nq.1 e.symm
     have nq2 : ¬ bn = bq := fun e => nq.2 e.symm
     simp only [go_sem, List.cons_append, List.nil_append]
     repeat (first | ((with_reducible refine AWp.ofC ?_ ?_); exact rfl; simp only [go_sem, hgt]) | ((with_reducible refine an ?_ ?_); exact Au))
     intros
     repeat (first | ((with_reducible refine AWp.ofC ?_ ?_); exact rfl; simp only [go_sem]) | ((with_reducible refine an ?_ ?_); exact Au))
     repeat ((with_reducible refine an ?_ ?_); exact As)
     refine (htr).val.use ?_; simp only [go_sem]
     repeat (first | ((with_reducible refine AWp.ofC ?_ ?_); exact rfl; simp only [go_sem, n1, nq, nq1]) | ((with_reducible refine an ?_ ?_); exact Au))
     intro b' cap' g8 g9 _
     have n3 : ¬ b' = bb ∧ ¬ b' = bn := by omega
     have n4 : ¬ bb = b' := by omega
     simp only [go_sem, n4]
     refine ⟨_, List.Sublist.refl _, .ls b' 1 0 (ys.length + 1) cap', [(b', .row 69 1 (ys ++ [.sl 1 ol]) cap')], rfl, ?_, ?_, hJ1 rfl⟩
     ·have := AppSt.row (t := 69) (k := 1) b' (ys ++ [.sl 1 ol]) cap'
      simpa using this
     ·intro y hy; simp only [List.mem_singleton] at hy; subst hy; exact n3
   ·rw [if_neg he] at htr
    have hC := hh he
    rcases hA.inv with ⟨e1, rfl, rfl⟩ | ⟨bq, cap, rfl, rfl⟩
    ·simp only [go_sem, List.nil_append]
     repeat (first | ((with_reducible refine AWp.ofC ?_ ?_); exact rfl; simp only [go_sem, hgt]) | ((with_reducible refine an ?_ ?_); exact Au))
     intros
     repeat (first | ((with_reducible refine AWp.ofC ?_ ?_); exact rfl; simp only [go_sem]) | ((with_reducible refine an ?_ ?_); exact Au))
     repeat ((with_reducible refine an ?_ ?_); exact As)
     refine (htr).val.use ?_; simp only [go_sem]
     repeat (first | ((with_reducible refine AWp.ofC ?_ ?_); exact rfl; simp only [go_sem, he]) | ((with_reducible refine an ?_ ?_); exact Au))
     refine ret_sub [] (List.nil_sublist _) ?_
     simp only [go_sem]
     exact .inr ⟨by rw [hC]; exact he, by rw [hC]⟩
    ·simp only [go_sem, List.cons_append, List.nil_append]
     repeat (first | ((with_reducible refine AWp.ofC ?_ ?_); exact rfl; simp only [go_sem, hgt]) | ((with_reducible refine an ?_ ?_); exact Au))
     intros
     repeat (first | ((with_reducible refine AWp.ofC ?_ ?_); exact rfl; simp only [go_sem]) | ((with_reducible refine an ?_ ?_); exact Au))
     repeat ((with_reducible refine an ?_ ?_); exact As)
     refine (htr).val.use ?_; simp only [go_sem]
     repeat (first | ((with_reducible refine AWp.ofC ?_ ?_); exact rfl; simp only [go_sem, he]) | ((with_reducible refine an ?_ ?_); exact Au))
     refine ret_sub [] (List.nil_sublist _) ?_
     simp only [go_sem]
     exact .inr ⟨by rw [hC]; exact he, by rw [hC]⟩
  ·rintro vs L - ⟨v, Lq, rfl, hA, hq, hJ⟩
   have hyl := okK_len E ts.length
   have hC := hzero fun q hq => hJ q hq hq
   have hfin : okK E ts.length = okM E := by unfold okK okM; rw [hEn, hv.2]
   rw [hfin] at hA hyl
   have hdn : List.replicate ps.length (ai 0) = dnA E.n (fun _ => 0) := by unfold dnA; apply List.ext_getElem (by simp; omega); intro i h1 h2; simp
   rcases hA.inv with ⟨e1, rfl, rfl⟩ | ⟨bq, cap, rfl, rfl⟩
   ·rw [e1] at hyl; simp at hyl; omega
   ·have nq := hq (bq, .row 69 1 (okM E) cap) (by simp)
    simp only at nq
    have nq1 : ¬ bb = bq := fun e => nq.1 e.symm
    have nq2 : ¬ bn = bq := fun e => nq.2 e.symm
    simp only [go_sem, List.cons_append, List.nil_append]
    repeat (first | ((with_reducible refine AWp.ofC ?_ ?_); exact rfl; simp only [go_sem]) | ((with_reducible refine an ?_ ?_); exact Au))
    repeat ((with_reducible refine an ?_ ?_); exact As)
    refine (hnd).val.use ?_; simp only [go_sem, n1, nq1]
    repeat ((with_reducible refine an ?_ ?_); exact As)
    refine AWp.view (L' := [(bb, .row 116 3 [.agg [.sl 1 (needT E), .sl 1 (okM E), .ls bn 1 0 ps.length ps.length]] 1), (bn, .row 3 1 (List.replicate ps.length (ai 0)) ps.length)]) [true, false, false] [] ?_ (by simp) ?_
    ·simp only [pickT, pickF]
     exact .row (Vws.cons (.mkAgg (Vws.cons (.refl _) (Vws.cons (Vw.ofLs (if_pos rfl) rfl) (Vws.refl _)))) .nil) (.refl _)
    ·simp only [go_sem]
     repeat (first | ((with_reducible refine AWp.ofC ?_ ?_); exact rfl; simp only [go_sem]) | ((with_reducible refine an ?_ ?_); exact Au))
     refine ret_own ?_
     simp only [go_sem]
     refine ⟨hC, bb, bn, n2, rfl, ?_⟩
     rw [hdn, hEn]
 ·have hC := conF_bad hv
  unfold startK
  rw [hC]
  by_cases hv1 : validF ps = true
  ·have hvl : ¬ (ts.length : Int) = ps.length := fun e => hv ⟨hv1, by omega⟩
   rw [hv1] at h1
   refine MCalls.enter' 61 [.tmp 4, .tmp 5] [2, 8, 50] Proofs.Tryz.func78 rfl rfl rfl rfl rfl (by simp) (AWp.of ?_); simp only [go_sem]
   repeat (first | ((with_reducible refine AWp.ofC ?_ ?_); exact rfl; simp only [go_sem]) | ((with_reducible refine an ?_ ?_); exact Au))
   repeat ((with_reducible refine an ?_ ?_); exact As)
   refine (h1).val.use ?_; simp only [go_sem, hvl]
   repeat (first | ((with_reducible refine AWp.ofC ?_ ?_); exact rfl; simp only [go_sem]) | ((with_reducible refine an ?_ ?_); exact Au))
   refine ret_own ?_
   simp only [go_sem]
   exact .inr (by decide)
  ·rw [show validF ps = false by simpa using hv1] at h1
   refine MCalls.enter' 61 [.tmp 4, .tmp 5] [2, 8, 50] Proofs.Tryz.func78 rfl rfl rfl rfl rfl (by simp) (AWp.of ?_); simp only [go_sem]
   repeat (first | ((with_reducible refine AWp.ofC ?_ ?_); exact rfl; simp only [go_sem]) | ((with_reducible refine an ?_ ?_); exact Au))
   repeat ((with_reducible refine an ?_ ?_); exact As)
   refine (h1).val.use ?_; simp only [go_sem]
   repeat (first | ((with_reducible refine AWp.ofC ?_ ?_); exact rfl; simp only [go_sem]) | ((with_reducible refine an ?_ ?_); exact Au))
   refine ret_own ?_
   simp only [go_sem]
   exact .inr (by decide)
end Go.AL
end
section
namespace Go.AL
open Go Go.RowKit
set_option maxRecDepth 4000
theorem lostB_fin (E : Elim) : lostB E (finF E) = lostF E := by
 have h := run_lost (run_spec E) (inE_zero E)
 cases hl : lostF E with
 | true =>
  obtain ⟨q, hq, hlt⟩ := h.1 hl
  exact lostB_true hq hlt
 | false =>
  refine List.any_eq_false.2 fun q hq => ?_
  rw [hl] at h
  have h2 : ¬ ∃ q, q < E.n ∧ E.top q < finF E q := fun x => by cases h.2 x
  intro hd
  exact h2 ⟨q, List.mem_range.1 hq, of_decide_eq_true hd⟩
theorem run_small {E : Elim} (hE : SmE E) {now fin : Nat → Nat} {st : List Stp} {l : Bool} (h : RunR E now st fin l) (hI : InE E now) : ∀ q, q < E.n → fin q ≤ 1000001 := by
 induction h with
 | stop h => exact inE_small hE hI
 | lost h hl => exact fun q hq => (step_lost hI h hl).2 q hq (hE.top q)
 | go h hl hr ih => exact ih (inE_step hI hl)
noncomputable def aPossR (ps : List Pr) (ts : List Pd) : AV := if conF ps ts = 0 then .tup [aAns (ansOf (elimOf ps ts)), ai 0] else .tup [aAns noAns, ai (conF ps ts)]
theorem lkq {Lq L : AHeap} {b : Nat} (h : ∀ x ∈ Lq, x.1 ≠ b) : lk (Lq ++ L) b = lk L b := by
 induction Lq with
 | nil => rfl
 | cons y Lq ih =>
  obtain ⟨yb, yx⟩ := y
  have h0 : ¬ b = yb := fun e => h (yb, yx) (by simp) e.symm
  show (if b = yb then _ else _) = _
  rw [if_neg h0]
  exact ih fun x hx => h x (List.mem_cons_of_mem _ hx)
theorem MCalls.toPC {P : Program} {f : FuncId} {args : List AV} {K : AV → AHeap → Prop} {r' : AV} (h : MCalls P f args [] K) (hv : ∀ r L, K r L → Vw L r r') : PC P f args r' :=
 ⟨h.1, fun n w A vs hL hr => (h.2 n w A vs hL hr).mono fun e w' ⟨v, r, L', A', he, hK, hf, hA, hL', hk, hr'⟩ =>
  ⟨v, r', [], fun b => A' b ∨ keysOf L' b, he, ⟨rfl, rfl⟩, hf, fun b hb => hb.elim (hA b) (fun ⟨x, hx, e⟩ => by subst e; exact (hk x hx).elim (fun ⟨y, hy, _⟩ => by cases hy) (fun h => .inr (.inr h))), hL'.viewed (Lf := L') (Lk := []) (by simp) .nil, (by intro x hx; cases hx), hL'.view (Lf := L') (Lk := []) (by simp) (hv r L' hK) hr'⟩⟩
theorem conj_PossiblyK (ps : List Pr) (hs : Sm ps) (ts : List Pd) (hz : ∀ t ∈ ts, szF t ≤ 1000000) (htl : ts.length ≤ 1000000) (K : AV → AHeap → Prop)
  (k1 : conF ps ts = 0 → lostF (elimOf ps ts) = true → ∀ v Lq, AppSt 77 3 ((stepsF (elimOf ps ts)).map aStp) v Lq → K (.tup [.agg [ai 1, ab false, ai 4, anil, anil, anil, v, ai 0], ai 0]) Lq)
  (k2 : conF ps ts = 0 → lostF (elimOf ps ts) = false → ∀ b, K (.tup [.agg [ai 1, ab true, ai 1, .ls b 1 0 (elimOf ps ts).n (elimOf ps ts).n, anil, anil, anil, ai 0], ai 0]) [(b, .row 3 1 (dnA (elimOf ps ts).n (finF (elimOf ps ts))) (elimOf ps ts).n)])
  (k3 : conF ps ts ≠ 0 → K (.tup [.agg [ai 0, ab false, ai 0, anil, anil, anil, anil, ai 0], ai (conF ps ts)]) []) : MCalls Proofs.Tryz.prog 30 [aTr ps, .sl 6 (ts.map aPd)] [] K := by
 have h1 := conj_start ps hs ts hz htl
 have hE := elim_sm hs ts
 unfold startK at h1
 have hl := hs.procs
 have hEn : (elimOf ps ts).n = ps.length := rfl
 have hrun := run_spec (elimOf ps ts)
 have hlo := board_lost (elimOf ps ts) hE (finF (elimOf ps ts)) (run_small hE hrun (inE_zero _))
 rw [lostB_fin] at hlo
 have hst := fun bb bn hb => board_steps (elimOf ps ts) hE (fun _ => 0) (finF (elimOf ps ts)) (inE_zero _) (stepsF (elimOf ps ts)) (lostF (elimOf ps ts)) hrun bb bn hb
 have hB : ∀ f bb bn, boardL (elimOf ps ts) f bb bn = [(bb, .row 116 3 [.agg [.sl 1 (needT (elimOf ps ts)), .sl 1 (okM (elimOf ps ts)), .ls bn 1 0 (elimOf ps ts).n (elimOf ps ts).n]] 1), (bn, .row 3 1 (dnA (elimOf ps ts).n f) (elimOf ps ts).n)] := fun f bb bn => rfl
 generalize elimOf ps ts = E at *
 generalize conF ps ts = C at *
 generalize stepsF E = st at *
 generalize finF E = fin at *
 generalize lostF E = lo at *
 refine MCalls.enter' 30 [.cell 4 52, .tmp 5] [2] Proofs.Tryz.func30 rfl rfl rfl rfl rfl (by simp) (AWp.of ?_); simp only [go_sem]
 intro b4
 repeat (first | ((with_reducible refine AWp.ofC ?_ ?_); exact rfl; simp only [go_sem]) | ((with_reducible refine an ?_ ?_); exact Au))
 refine MVal.pass (Lf := []) (Li := []) (Lr := [(b4, .row 52 8 [.agg [ai 0, ab false, ai 0, anil, anil, anil, anil, ai 0]] 1)]) (by simp) (Vws.refl _) h1.val ?_
 rintro r L1 (⟨rfl, bb, bn, hb, rfl, rfl⟩ | ⟨hC, rfl, rfl⟩)
 ·refine ⟨_, .refl _, ?_⟩
  simp only [go_sem]
  refine AWp.nodup fun hnd => ?_
  have hb' : ¬ bb = bn := fun e => hb e.symm
  have hn4 : (¬ bb = b4 ∧ ¬ b4 = bb) ∧ (¬ bn = b4 ∧ ¬ b4 = bn) := by
   simp only [hB, List.cons_append, List.nil_append, List.map_cons, List.map_nil, List.nodup_cons, List.mem_cons, List.not_mem_nil, or_false, not_or] at hnd
   exact ⟨⟨hnd.1.2, fun e => hnd.1.2 e.symm⟩, ⟨hnd.2.1, fun e => hnd.2.1 e.symm⟩⟩
  clear hnd
  repeat (first | ((with_reducible refine AWp.ofC ?_ ?_); exact rfl; simp only [go_sem]) | ((with_reducible refine an ?_ ?_); exact Au))
  refine MVal.pass (Lf := []) (Li := boardL E (fun _ => 0) bb bn) (Lr := [(b4, .row 52 8 [.agg [ai 0, ab false, ai 0, anil, anil, anil, anil, ai 0]] 1)]) (.refl _) (Vws.refl _) (hst bb bn hb).val ?_
  rintro r L1 ⟨Lq, hA, rfl, hq⟩
  refine ⟨_, .refl _, ?_⟩
  have hfo := hA.fo
  simp only [go_sem, hfo]
  refine AWp.nodup fun hnd => ?_
  have hq4 : ∀ x ∈ Lq, x.1 ≠ b4 := fun x hx e => by
   rw [List.append_assoc, List.map_append, List.nodup_append] at hnd
   refine hnd.2.2 _ (List.mem_map_of_mem hx) b4 ?_ e
   simp
  clear hnd
  have hvw : Vws ((Lq ++ boardL E fin bb bn) ++ [(b4, .row 52 8 [.agg [ai 0, ab false, ai 0, anil, anil, anil, anil, ai 0]] 1)]) [.lp bb 3 0 0] [aBoard E fin] := by
   rw [List.append_assoc]
   refine board_viewL (bn := bn) ?_ ?_ []
   ·rw [lkq fun x hx => (hq x hx).1, hB]; simp only [List.cons_append, List.nil_append, lk, if_true]
   ·rw [lkq fun x hx => (hq x hx).2, hB]; simp only [List.cons_append, List.nil_append, lk, hb, if_false, if_true]
  repeat (first | ((with_reducible refine AWp.ofC ?_ ?_); exact rfl; simp only [go_sem]) | ((with_reducible refine an ?_ ?_); exact Au))
  refine (PC.view hvw hlo (Own.v _) ?_).val
  rw [hB] at *
  cases lo with
  | true =>
   rcases hA.inv with ⟨e1, rfl, rfl⟩ | ⟨bq, cap, rfl, rfl⟩
   ·simp only [go_sem, List.nil_append]
    repeat (first | ((with_reducible refine AWp.ofC ?_ ?_); exact rfl; simp only [go_sem, hn4]) | ((with_reducible refine an ?_ ?_); exact Au))
    refine ret_sub [] (List.nil_sublist _) ?_
    simp only [go_sem, hn4]
    exact k1 rfl rfl _ _ hA
   ·have nq4 := hq4 (bq, .row 77 3 (st.map aStp) cap) (by simp)
    simp only at nq4
    have nq4' : ¬ b4 = bq := fun e => nq4 e.symm
    simp only [go_sem, List.cons_append, List.nil_append]
    repeat (first | ((with_reducible refine AWp.ofC ?_ ?_); exact rfl; simp only [go_sem, hn4, nq4']) | ((with_reducible refine an ?_ ?_); exact Au))
    refine ret_sub [(bq, .row 77 3 (st.map aStp) cap)] (by simp) ?_
    simp only [go_sem, hn4, nq4']
    have := k1 rfl rfl _ _ hA
    simpa using this
  | false =>
   rcases hA.inv with ⟨e1, rfl, rfl⟩ | ⟨bq, cap, rfl, rfl⟩
   ·simp only [go_sem, List.nil_append]
    repeat (first | ((with_reducible refine AWp.ofC ?_ ?_); exact rfl; simp only [go_sem, hn4, hb']) | ((with_reducible refine an ?_ ?_); exact Au))
    refine ret_sub [(bn, .row 3 1 (dnA E.n fin) E.n)] (by simp) ?_
    simp only [go_sem, hn4]
    exact k2 rfl rfl _
   ·have nq4 := hq4 (bq, .row 77 3 (st.map aStp) cap) (by simp)
    simp only at nq4
    have nq4' : ¬ b4 = bq := fun e => nq4 e.symm
    have nq := hq (bq, .row 77 3 (st.map aStp) cap) (by simp)
    simp only at nq
    have nqa : ¬ bb = bq ∧ ¬ bn = bq := ⟨fun e => nq.1 e.symm, fun e => nq.2 e.symm⟩
    simp only [go_sem, List.cons_append, List.nil_append]
    repeat (first | ((with_reducible refine AWp.ofC ?_ ?_); exact rfl; simp only [go_sem, hn4, nq4', hb', nqa]) | ((with_reducible refine an ?_ ?_); exact Au))
    refine ret_sub [(bn, .row 3 1 (dnA E.n fin) E.n)] (by simp) ?_
    simp only [go_sem, hn4, nq4']
    exact k2 rfl rfl _
 ·refine ⟨_, .refl _, ?_⟩
  simp only [go_sem, List.nil_append]
  repeat (first | ((with_reducible refine AWp.ofC ?_ ?_); exact rfl; simp only [go_sem, hC]) | ((with_reducible refine an ?_ ?_); exact Au))
  refine ret_sub [] (List.nil_sublist _) ?_
  simp only [go_sem]
  exact k3 hC
theorem conj_Possibly (ps : List Pr) (hs : Sm ps) (ts : List Pd) (hz : ∀ t ∈ ts, szF t ≤ 1000000) (htl : ts.length ≤ 1000000) : PC Proofs.Tryz.prog 30 [aTr ps, .sl 6 (ts.map aPd)] (aPossR ps ts) := by
 refine (conj_PossiblyK ps hs ts hz htl (fun r L => Vw L r (aPossR ps ts)) (fun h hl v Lq hA => ?_) (fun h hl b => ?_) (fun h => ?_)).toPC fun _ _ h => h
 ·unfold aPossR ansOf
  rw [if_pos h, hl, if_pos rfl]
  refine .mkTup (Vws.cons (.mkAgg ?_) (Vws.refl _))
  refine Vws.cons (.refl _) (Vws.cons (.refl _) (Vws.cons (.refl _) (Vws.cons (.nil 1) (Vws.cons (.nil 1) (Vws.cons (.nil 1) (Vws.cons ?_ (Vws.refl _)))))))
  rw [← aStp_I]
  have := hA.vw []
  rwa [List.append_nil] at this
 ·unfold aPossR ansOf
  rw [if_pos h, hl, if_neg (by decide)]
  refine .mkTup (Vws.cons (.mkAgg ?_) (Vws.refl _))
  refine Vws.cons (.refl _) (Vws.cons (.refl _) (Vws.cons (.refl _) (Vws.cons ?_ (Vws.cons (.nil 1) (Vws.cons (.nil 1) (Vws.cons (.nil 3) (Vws.refl _)))))))
  rw [← dnA_I]
  exact Vw.ofLs (if_pos rfl) (dnA_length _ _).symm
 ·unfold aPossR
  rw [if_neg h]
  refine .mkTup (Vws.cons (.mkAgg ?_) (Vws.refl _))
  exact Vws.cons (.refl _) (Vws.cons (.refl _) (Vws.cons (.refl _) (Vws.cons (.nil 1) (Vws.cons (.nil 1) (Vws.cons (.nil 1) (Vws.cons (.nil 3) (Vws.refl _)))))))
end Go.AL
end
section
namespace Go.AL
open Go Go.RowKit
set_option maxRecDepth 4000
end Go.AL
end
section
namespace Go.AL
open Go Go.RowKit
set_option maxRecDepth 4000
end Go.AL
end
section
namespace Go.AL
open Go Go.RowKit
set_option maxRecDepth 4000
def leqF (a b : List Int) : Bool := decide (a.length = b.length) && (List.range a.length).all fun i => decide (a.getD i 0 ≤ b.getD i 0)
theorem leqF_ne {a b : List Int} (h : ¬ a.length = b.length) : leqF a b = false := by unfold leqF; rw [decide_eq_false h]; rfl
theorem leqF_no {a b : List Int} {i : Nat} (hi : i < a.length) (h : b.getD i 0 < a.getD i 0) : leqF a b = false := by
 unfold leqF
 rw [List.all_eq_false.2 ⟨i, List.mem_range.2 hi, by simpa using h⟩, Bool.and_false]
theorem leqF_yes {a b : List Int} (hl : a.length = b.length) (h : ∀ i, i < a.length → a.getD i 0 ≤ b.getD i 0) : leqF a b = true := by
 unfold leqF
 rw [decide_eq_true hl, Bool.true_and, List.all_eq_true]
 exact fun i hi => decide_eq_true (h i (List.mem_range.1 hi))
theorem leqF_iff {a b : List Int} : leqF a b = true ↔ a.length = b.length ∧ ∀ i, i < a.length → a.getD i 0 ≤ b.getD i 0 := by
 unfold leqF
 rw [Bool.and_eq_true, List.all_eq_true, decide_eq_true_eq]
 exact ⟨fun h => ⟨h.1, fun i hi => of_decide_eq_true (h.2 i (List.mem_range.2 hi))⟩, fun h => ⟨h.1, fun i hi => decide_eq_true (h.2 i (List.mem_range.1 hi))⟩⟩
theorem getD_ai2 {x : List Int} {i : Nat} (hi : i < x.length) : (x.map ai).getD i .any = ai (x.getD i 0) := by
 rw [getD_map hi, List.getD_eq_getElem?_getD, List.getElem?_eq_getElem hi]; rfl
theorem cut_Leq (a b : List Int) (ha : a.length ≤ 1000000) : PC Proofs.Tryz.prog 47 [aInts a, aInts b] (ab (leqF a b)) := by
 by_cases hl : a.length = b.length
 ·have hli : (a.length : Int) = b.length := by omega
  have hno := fun i hi h => leqF_no (a := a) (b := b) (i := i) hi h
  have hyes := leqF_yes hl
  generalize leqF a b = B at *
  refine PC.enter 26 [.tmp 4] [] Proofs.Tryz.func47 rfl rfl rfl rfl rfl (by simp) (AWp.of ?_); simp only [go_sem]
  repeat (first | ((with_reducible refine AWp.ofC ?_ ?_); exact rfl; simp only [go_sem, hli]) | ((with_reducible refine an ?_ ?_); exact Au))
  refine AWp.range' b.length [] [0, 1, 12] (fun i vs L => L = [] ∧ ∀ j, j < i → a.getD j 0 ≤ b.getD j 0) (by omega) rfl rfl rfl ⟨rfl, fun j h => by omega⟩ ?_ ?_
  ·rintro i vs L hi - ⟨rfl, hJ⟩
   have ga := getD_ai2 (show i < a.length by omega)
   have gb := getD_ai2 hi
   have hno := hno i (by omega)
   simp only [go_sem]
   repeat (first | ((with_reducible refine AWp.ofC ?_ ?_); exact rfl; simp only [go_sem]) | ((with_reducible refine an ?_ ?_); exact Au))
   refine AWp.seq ?_
   refine AWp.mix mixed [0, 1, 2, 3, 4, 5, 6, 7, 8] .done (by kernel_rfl) ?_; simp only [go_sem, ga, gb, hli]
   repeat ((with_reducible refine an ?_ ?_); exact As)
   repeat (first | ((with_reducible refine AWp.ofC ?_ ?_); exact rfl; simp only [go_sem]) | ((with_reducible refine an ?_ ?_); exact Au))
   refine ⟨fun h1 => ?_, fun h1 => ?_⟩
   ·repeat (first | ((with_reducible refine AWp.ofC ?_ ?_); exact rfl; simp only [go_sem]) | ((with_reducible refine an ?_ ?_); exact Au))
    refine ret_eq ?_; simp only [go_sem]
    rw [hno h1]
   ·refine ⟨_, List.Sublist.refl _, rfl, fun j hj => ?_⟩
    by_cases e : j = i
    ·subst e; omega
    ·exact hJ j (by omega)
  ·rintro vs L - ⟨rfl, hJ⟩
   simp only [go_sem]
   repeat (first | ((with_reducible refine AWp.ofC ?_ ?_); exact rfl; simp only [go_sem]) | ((with_reducible refine an ?_ ?_); exact Au))
   refine ret_eq ?_; simp only [go_sem]
   rw [hyes fun i hi => hJ i (by omega)]
 ·have hli : ¬ (a.length : Int) = b.length := by omega
  rw [leqF_ne hl]
  refine PC.enter 26 [.tmp 4] [] Proofs.Tryz.func47 rfl rfl rfl rfl rfl (by simp) (AWp.of ?_); simp only [go_sem]
  repeat (first | ((with_reducible refine AWp.ofC ?_ ?_); exact rfl; simp only [go_sem, hli]) | ((with_reducible refine an ?_ ?_); exact Au))
  refine ret_eq ?_; simp only [go_sem]
noncomputable def safeF (ps : List Pr) (ts : List Pd) (c : List Int) : Bool := lostF (elimOf ps ts) || leqF c (cutL ps.length (finF (elimOf ps ts)))
noncomputable def safeE (ps : List Pr) (ts : List Pd) (c : List Int) : Int := if conF ps ts ≠ 0 then conF ps ts else givenF ps [c] []
theorem prune_Safe (ps : List Pr) (hs : Sm ps) (ts : List Pd) (hz : ∀ t ∈ ts, szF t ≤ 1000000) (htl : ts.length ≤ 1000000) (c : List Int) (hc : c.length ≤ 1000000) :
  PC Proofs.Tryz.prog 45 [aTr ps, .sl 6 (ts.map aPd), aInts c] (if safeE ps ts c = 0 then .tup [ab (safeF ps ts c), ai 0] else .tup [ab false, ai (safeE ps ts c)]) := by
 have h1 := conj_Possibly ps hs ts hz htl
 have h2 := cut_Frontier ps hs c hc
 have h3 := cut_Leq c (cutL ps.length (finF (elimOf ps ts))) hc
 have hEn : (elimOf ps ts).n = ps.length := rfl
 unfold aPossR ansOf at h1
 unfold safeE safeF aFront at *
 rw [hEn] at h1
 generalize lostF (elimOf ps ts) = lo at *
 generalize finF (elimOf ps ts) = fin at *
 generalize stepsF (elimOf ps ts) = st at *
 generalize cutL ps.length fin = F at *
 generalize leqF c F = B at *
 generalize givenF ps [c] [] = G at *
 generalize aEids (frontL 0 c) = FR at *
 by_cases hf : conF ps ts = 0
 ·rw [if_pos hf] at h1
  have e0 : (if conF ps ts ≠ 0 then conF ps ts else G) = G := if_neg (by simpa using hf)
  rw [e0]
  by_cases hg : G = 0
  ·rw [if_neg (by simpa using hg)] at h2
   rw [if_pos hg]
   cases lo with
   | true =>
    rw [if_pos rfl] at h1
    unfold aAns aSps at h1
    refine PC.enter 37 [.tmp 6, .tmp 7] [3, 8] Proofs.Tryz.func45 rfl rfl rfl rfl rfl (by simp) (AWp.of ?_); simp only [go_sem]
    repeat (first | ((with_reducible refine AWp.ofC ?_ ?_); exact rfl; simp only [go_sem]) | ((with_reducible refine an ?_ ?_); exact Au))
    repeat ((with_reducible refine an ?_ ?_); exact As)
    refine (h1).val.use ?_; simp only [go_sem]
    intro b8
    intros
    repeat (first | ((with_reducible refine AWp.ofC ?_ ?_); exact rfl; simp only [go_sem]) | ((with_reducible refine an ?_ ?_); exact Au))
    repeat ((with_reducible refine an ?_ ?_); exact As)
    refine (h2).val.use ?_; simp only [go_sem]
    repeat (first | ((with_reducible refine AWp.ofC ?_ ?_); exact rfl; simp only [go_sem]) | ((with_reducible refine an ?_ ?_); exact Au))
    refine GCall.use (ab B) (fun g => by simp at g) ?_
    simp only [go_sem]
    repeat (first | ((with_reducible refine AWp.ofC ?_ ?_); exact rfl; simp only [go_sem]) | ((with_reducible refine an ?_ ?_); exact Au))
    refine ret_eq ?_; simp only [go_sem]
    rfl
   | false =>
    rw [if_neg (by decide)] at h1
    unfold aAns aSps at h1
    refine PC.enter 37 [.tmp 6, .tmp 7] [3, 8] Proofs.Tryz.func45 rfl rfl rfl rfl rfl (by simp) (AWp.of ?_); simp only [go_sem]
    repeat (first | ((with_reducible refine AWp.ofC ?_ ?_); exact rfl; simp only [go_sem]) | ((with_reducible refine an ?_ ?_); exact Au))
    repeat ((with_reducible refine an ?_ ?_); exact As)
    refine (h1).val.use ?_; simp only [go_sem]
    intro b8
    intros
    repeat (first | ((with_reducible refine AWp.ofC ?_ ?_); exact rfl; simp only [go_sem]) | ((with_reducible refine an ?_ ?_); exact Au))
    repeat ((with_reducible refine an ?_ ?_); exact As)
    refine (h2).val.use ?_; simp only [go_sem]
    repeat (first | ((with_reducible refine AWp.ofC ?_ ?_); exact rfl; simp only [go_sem]) | ((with_reducible refine an ?_ ?_); exact Au))
    repeat ((with_reducible refine an ?_ ?_); exact As)
    refine GCall.use (ab B) (fun _ => ⟨At, (h3).val.use ⟨rfl, rfl⟩⟩) ?_; simp only [go_sem]
    repeat ((with_reducible refine an ?_ ?_); exact As)
    repeat (first | ((with_reducible refine AWp.ofC ?_ ?_); exact rfl; simp only [go_sem]) | ((with_reducible refine an ?_ ?_); exact Au))
    refine ret_eq ?_; simp only [go_sem]
    rfl
  ·rw [if_pos (by simpa using hg)] at h2
   rw [if_neg hg]
   generalize hAA : (if lo = true then (⟨1, false, 4, [], [], [], st.map stpI, 0⟩ : Ans) else ⟨1, true, 1, F, [], [], [], 0⟩) = AA at *
   obtain ⟨m0, m1, m2, m3, m4, m5, m6, m7⟩ := AA
   unfold aAns aSps at h1
   refine PC.enter 37 [.tmp 6, .tmp 7] [3, 8] Proofs.Tryz.func45 rfl rfl rfl rfl rfl (by simp) (AWp.of ?_); simp only [go_sem]
   repeat (first | ((with_reducible refine AWp.ofC ?_ ?_); exact rfl; simp only [go_sem]) | ((with_reducible refine an ?_ ?_); exact Au))
   repeat ((with_reducible refine an ?_ ?_); exact As)
   refine (h1).val.use ?_; simp only [go_sem]
   intro b8
   intros
   repeat (first | ((with_reducible refine AWp.ofC ?_ ?_); exact rfl; simp only [go_sem]) | ((with_reducible refine an ?_ ?_); exact Au))
   repeat ((with_reducible refine an ?_ ?_); exact As)
   refine (h2).val.use ?_; simp only [go_sem]
   repeat (first | ((with_reducible refine AWp.ofC ?_ ?_); exact rfl; simp only [go_sem, hg]) | ((with_reducible refine an ?_ ?_); exact Au))
   refine ret_eq ?_; simp only [go_sem]
 ·rw [if_neg hf] at h1
  have e0 : (if conF ps ts ≠ 0 then conF ps ts else G) = conF ps ts := if_pos hf
  rw [e0, if_neg hf]
  unfold aAns aSps noAns at h1
  simp only at h1
  generalize conF ps ts = C at *
  refine PC.enter 37 [.tmp 6, .tmp 7] [3, 8] Proofs.Tryz.func45 rfl rfl rfl rfl rfl (by simp) (AWp.of ?_); simp only [go_sem]
  repeat (first | ((with_reducible refine AWp.ofC ?_ ?_); exact rfl; simp only [go_sem]) | ((with_reducible refine an ?_ ?_); exact Au))
  repeat ((with_reducible refine an ?_ ?_); exact As)
  refine (h1).val.use ?_; simp only [go_sem]
  intro b8
  intros
  repeat (first | ((with_reducible refine AWp.ofC ?_ ?_); exact rfl; simp only [go_sem, hf]) | ((with_reducible refine an ?_ ?_); exact Au))
  refine ret_eq ?_; simp only [go_sem]
end Go.AL
end
