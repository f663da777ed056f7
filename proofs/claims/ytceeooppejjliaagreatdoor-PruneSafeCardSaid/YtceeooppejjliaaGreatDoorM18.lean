/- Texts of this claim's proof: WEx, WSs, WSp, WRr, WEy. No condition. -/
import Derived.Test.YtceeooppejjliaaGreatDoorM16
import Derived.Test.YtceeooppejjliaaGreatDoorM17
section
namespace Go.AL
open Go Go.RowKit
set_option maxRecDepth 4000
theorem ref37_Fault (ps : List Pr) (hs : Sm ps) (ts : List Pd) (hz : ∀ t ∈ ts, szF t ≤ 1000000) (htl : ts.length ≤ 1000000) : PC Proofs.Tryz.prog 26 [aTr ps, .sl 6 (ts.map aPd)] (ai (conF ps ts)) := by
 have h1 := ref12_Valid ps hs
 have hl := hs.procs
 by_cases hv : validF ps = true ∧ ts.length = ps.length
 ·have hvl : (ts.length : Int) = ps.length := by omega
  rw [hv.1] at h1
  have hhit := fun p hp => conF_hit hv (p := p) hp
  have hzero := conF_zero hv
  generalize conF ps ts = C at *
  refine PC.enter 34 [.tmp 4] [2] Proofs.Tryz.func26 rfl rfl rfl rfl rfl (by simp) (AWp.of ?_); simp only [go_sem]
  repeat (first | ((with_reducible refine AWp.ofC ?_ ?_); exact rfl; simp only [go_sem]) | ((with_reducible refine an ?_ ?_); exact Au))
  repeat ((with_reducible refine an ?_ ?_); exact As)
  refine (h1).val.use ?_; simp only [go_sem, hvl]
  repeat (first | ((with_reducible refine AWp.ofC ?_ ?_); exact rfl; simp only [go_sem]) | ((with_reducible refine an ?_ ?_); exact Au))
  refine AWp.block (AWp.count 5 ts.length [] [1, 2] (fun p vs L => L = [] ∧ ∀ q (hq : q < ts.length), q < p → lclF ps q 0 ts[q] = 0) rfl rfl ⟨rfl, fun q hq h => by omega⟩ ?_)
  rintro p vs L hp - ⟨rfl, hJ⟩
  simp only [go_sem]
  repeat (first | ((with_reducible refine AWp.ofC ?_ ?_); exact rfl; simp only [go_sem]) | ((with_reducible refine an ?_ ?_); exact Au))
  refine ⟨fun h2 => ?_, fun h2 => ?_⟩
  ·have hpt : p < ts.length := by omega
   have hgt := getD_map (f := aPd) hpt
   have hlf := ref29_LocalFault ps hs p 0 ts[p] (hz _ (List.getElem_mem hpt))
   have hh := hhit p hpt hJ
   generalize hE : lclF ps p 0 ts[p] = e at *
   generalize hT : ts[p] = t at *
   obtain ⟨k0, n, pp, q, s, l⟩ := t
   simp only [aPd_mk] at *
   refine AWp.seq (AWp.block (AWp.seq ?_))
   refine AWp.mix mixed [0, 1, 2, 3, 4, 5, 6, 7] .done (by kernel_rfl) ?_; simp only [go_sem, hgt]
   repeat ((with_reducible refine an ?_ ?_); exact As)
   repeat ((with_reducible refine an ?_ ?_); exact As)
   refine GCall.use (ai e) (fun _ => ⟨At, (hlf).val.use ⟨rfl, rfl⟩⟩) ?_; simp only [go_sem]
   repeat ((with_reducible refine an ?_ ?_); exact As)
   repeat (first | ((with_reducible refine AWp.ofC ?_ ?_); exact rfl; simp only [go_sem]) | ((with_reducible refine an ?_ ?_); exact Au))
   refine ⟨fun h3 => ?_, fun h3 => ?_⟩
   ·repeat (first | ((with_reducible refine AWp.ofC ?_ ?_); exact rfl; simp only [go_sem]) | ((with_reducible refine an ?_ ?_); exact Au))
    refine ret_eq ?_; simp only [go_sem]
    rw [hh h3]
   ·repeat (first | ((with_reducible refine AWp.ofC ?_ ?_); exact rfl; simp only [go_sem]) | ((with_reducible refine an ?_ ?_); exact Au))
    refine ⟨_, List.Sublist.refl _, rfl, fun j hj hjp => ?_⟩
    by_cases ej : j = p
    ·subst ej; rw [hT, hE, h3]
    ·exact hJ j hj (by omega)
  ·repeat (first | ((with_reducible refine AWp.ofC ?_ ?_); exact rfl; simp only [go_sem]) | ((with_reducible refine an ?_ ?_); exact Au))
   refine ret_eq ?_; simp only [go_sem]
   rw [hzero fun q hq => hJ q hq (by omega)]
 ·rw [conF_bad hv]
  by_cases hv1 : validF ps = true
  ·have hvl : ¬ (ts.length : Int) = ps.length := fun e => hv ⟨hv1, by omega⟩
   rw [hv1] at h1
   refine PC.enter 34 [.tmp 4] [2] Proofs.Tryz.func26 rfl rfl rfl rfl rfl (by simp) (AWp.of ?_); simp only [go_sem]
   repeat (first | ((with_reducible refine AWp.ofC ?_ ?_); exact rfl; simp only [go_sem]) | ((with_reducible refine an ?_ ?_); exact Au))
   repeat ((with_reducible refine an ?_ ?_); exact As)
   refine (h1).val.use ?_; simp only [go_sem, hvl]
   repeat (first | ((with_reducible refine AWp.ofC ?_ ?_); exact rfl; simp only [go_sem]) | ((with_reducible refine an ?_ ?_); exact Au))
   refine ret_eq ?_; simp only [go_sem]
  ·rw [show validF ps = false by simpa using hv1] at h1
   refine PC.enter 34 [.tmp 4] [2] Proofs.Tryz.func26 rfl rfl rfl rfl rfl (by simp) (AWp.of ?_); simp only [go_sem]
   repeat (first | ((with_reducible refine AWp.ofC ?_ ?_); exact rfl; simp only [go_sem]) | ((with_reducible refine an ?_ ?_); exact Au))
   repeat ((with_reducible refine an ?_ ?_); exact As)
   refine (h1).val.use ?_; simp only [go_sem]
   repeat (first | ((with_reducible refine AWp.ofC ?_ ?_); exact rfl; simp only [go_sem]) | ((with_reducible refine an ?_ ?_); exact Au))
   refine ret_eq ?_; simp only [go_sem]
theorem ref37_Excluded (ps : List Pr) (hs : Sm ps) (ts : List Pd) (hz : ∀ t ∈ ts, szF t ≤ 1000000) (htl : ts.length ≤ 1000000) (hf : conF ps ts = 0) (now : Nat → Nat) (hI : InE (elimOf ps ts) now) (p k : Nat) (hp : p < ps.length) (hk : k ≤ ps[p].evs.length) :
  PC Proofs.Tryz.prog 84 [aTr ps, .sl 6 (ts.map aPd), .sl 1 (dnA ps.length now), ai p, ai k] (ab (exB (elimOf ps ts) now p k)) := by
 obtain ⟨hv, htn, hlc⟩ := conF_inv hf
 have hl := hs.procs
 have hel := hs.evs _ (List.getElem_mem hp)
 have hpt : p < ts.length := by omega
 obtain ⟨c1, _, _, _, c5, c6⟩ := lcl_ok (hlc p hpt)
 have hloc := ref29_Local ps hs p k hp hk ts[p] (hz _ (List.getElem_mem hpt)) c1 c5 c6
 have hok : (elimOf ps ts).ok p k = lclT ps p ts[p] k := by show (match ts[p]? with | some t => lclT ps p t k | none => true) = _; rw [List.getElem?_eq_getElem hpt]
 rw [← hok] at hloc
 have hnd := fun q (hq : q < ps.length) => ref37_Need ps hs hv q hq (now q) (by have := hI q hq; rw [show (elimOf ps ts).top q = nev ps q from rfl, nev_get hq] at this; exact this) p hp
 have hnow := fun q (hq : q < ps.length) => (show now q ≤ 1000000 by have := hI q hq; have := (elim_sm hs ts).top q; omega)
 have hne : ∀ q, cAt (closeF ps (stC ps.length q (now q))) p = (elimOf ps ts).need q (now q) p := fun q => rfl
 have hgt := getD_map (f := aPd) hpt
 have hEn : (elimOf ps ts).n = ps.length := rfl
 have hff := exB_false (E := elimOf ps ts) (now := now) (p := p) (k := k)
 have hex : exB (elimOf ps ts) now p k = (!(elimOf ps ts).ok p k || exB (elimOf ps ts) now p k) := by
  cases h : exB (elimOf ps ts) now p k with
  | true => rw [Bool.or_true]
  | false => rw [(exB_false.1 h).1]; rfl
 simp only [hne] at hnd
 clear hlc c1 c5 c6 hok hf hI hne
 generalize exB (elimOf ps ts) now p k = B at *
 generalize (elimOf ps ts).ok p k = okb at *
 generalize (elimOf ps ts).need = N at *
 rw [hEn] at hff
 generalize hT : ts[p] = t at *
 obtain ⟨k0, n, pp, q0, s, l⟩ := t
 simp only [aPd_mk] at *
 refine PC.enter 42 [.tmp 10] [5] Proofs.Tryz.func84 rfl rfl rfl rfl rfl (by simp) (AWp.of ?_); simp only [go_sem]
 refine AWp.seq (AWp.seq ?_)
 refine AWp.mix mixed [0, 1, 2, 3, 4, 5, 6, 7, 8] .done (by kernel_rfl) ?_; simp only [go_sem, hgt]
 repeat ((with_reducible refine an ?_ ?_); exact As)
 repeat ((with_reducible refine an ?_ ?_); exact As)
 refine GCall.use (ab okb) (fun _ => ⟨At, (hloc).val.use ⟨rfl, rfl⟩⟩) ?_; simp only [go_sem]
 repeat ((with_reducible refine an ?_ ?_); exact As)
 repeat (first | ((with_reducible refine AWp.ofC ?_ ?_); exact rfl; simp only [go_sem]) | ((with_reducible refine an ?_ ?_); exact Au))
 refine ⟨fun h1 => ?_, fun h1 => ?_⟩
 ·repeat (first | ((with_reducible refine AWp.ofC ?_ ?_); exact rfl; simp only [go_sem]) | ((with_reducible refine an ?_ ?_); exact Au))
  refine ret_eq ?_; simp only [go_sem]
  rw [hex, h1]; rfl
 ·repeat (first | ((with_reducible refine AWp.ofC ?_ ?_); exact rfl; simp only [go_sem]) | ((with_reducible refine an ?_ ?_); exact Au))
  refine AWp.block (AWp.count 11 ps.length [] [2, 3, 4, 5] (fun q vs L => L = [] ∧ ∀ j, j < q → j ≠ p → N j (now j) p ≤ k) rfl rfl ⟨rfl, fun j hj => by omega⟩ ?_)
  rintro q vs L hq - ⟨rfl, hJ⟩
  simp only [go_sem]
  repeat (first | ((with_reducible refine AWp.ofC ?_ ?_); exact rfl; simp only [go_sem, dnA_length]) | ((with_reducible refine an ?_ ?_); exact Au))
  refine ⟨fun h2 => ?_, fun h2 => ?_⟩
  ·have hqn : q < ps.length := by omega
   have hgn := dnA_get hqn now
   have hnd := hnd q hqn
   have hnq := hnow q hqn
   have hei : ((q : Int) = p) ↔ q = p := by omega
   refine AWp.seq (AWp.block (AWp.seq ?_))
   refine AWp.mix mixed [0, 1, 2, 3, 4, 5, 6, 7, 8, 9, 10, 11, 12, 13, 14] .done (by kernel_rfl) ?_; simp only [go_sem, hgn, dnA_length]
   repeat ((with_reducible refine an ?_ ?_); exact As)
   repeat ((with_reducible refine an ?_ ?_); exact As)
   refine GCall.use (ai (N q (now q) p)) (fun _ => ⟨At, (hnd).val.use ⟨rfl, rfl⟩⟩) ?_; simp only [go_sem]
   repeat ((with_reducible refine an ?_ ?_); exact As)
   repeat (first | ((with_reducible refine AWp.ofC ?_ ?_); exact rfl; simp only [go_sem]) | ((with_reducible refine an ?_ ?_); exact Au))
   refine ⟨fun h3 h4 => ?_, fun h3 => ?_⟩
   ·repeat (first | ((with_reducible refine AWp.ofC ?_ ?_); exact rfl; simp only [go_sem]) | ((with_reducible refine an ?_ ?_); exact Au))
    refine ret_eq ?_; simp only [go_sem]
    cases B with
    | true => rfl
    | false => have := (hff.1 rfl).2 q hqn (by omega); omega
   ·repeat (first | ((with_reducible refine AWp.ofC ?_ ?_); exact rfl; simp only [go_sem]) | ((with_reducible refine an ?_ ?_); exact Au))
    refine ⟨_, List.Sublist.refl _, rfl, fun j hj hn => ?_⟩
    by_cases ej : j = q
    ·subst ej
     have := h3 (by omega)
     omega
    ·exact hJ j (by omega) hn
  ·repeat (first | ((with_reducible refine AWp.ofC ?_ ?_); exact rfl; simp only [go_sem]) | ((with_reducible refine an ?_ ?_); exact Au))
   refine ret_eq ?_; simp only [go_sem]
   rw [hff.2 ⟨by simpa using h1, fun j hj hn => hJ j (by omega) hn⟩]
end Go.AL
end
section
namespace Go.AL
open Go Go.RowKit
set_option maxRecDepth 4000
def anilp : AV := .v (.pointer none)
def startK (ps : List Pr) (ts : List Pd) (r : AV) (L : AHeap) : Prop :=
 (conF ps ts = 0 ∧ ∃ bb bn, ¬ bn = bb ∧ r = .tup [.lp bb 3 0 0, ai 0] ∧ L = boardL (elimOf ps ts) (fun _ => 0) bb bn) ∨ (conF ps ts ≠ 0 ∧ r = .tup [.v (.pointer none), ai (conF ps ts)] ∧ L = [])
def okK (E : Elim) (m : Nat) : List AV := (List.range m).map fun q => .sl 1 (okL E q)
theorem okK_len (E : Elim) (m : Nat) : (okK E m).length = m := by simp [okK]
theorem okK_succ (E : Elim) (m : Nat) : okK E (m + 1) = okK E m ++ [.sl 1 (okL E m)] := by unfold okK; rw [List.range_succ, List.map_append]; rfl
theorem truths_row {ps : List Pr} {ts : List Pd} {p : Nat} (hp : p < ts.length) (hpp : p < ps.length) : (truthsF ps p ts[p]).map ab = okL (elimOf ps ts) p := by
 rw [truthsF_nat hpp, List.map_map]
 unfold okL
 rw [show (elimOf ps ts).top p = ps[p].evs.length from nev_get hpp]
 refine List.map_congr_left fun k _ => ?_
 show ab _ = ab (match ts[p]? with | some t => lclT ps p t k | none => true)
 rw [List.getElem?_eq_getElem hp]
theorem conj_start (ps : List Pr) (hs : Sm ps) (ts : List Pd) (hz : ∀ t ∈ ts, szF t ≤ 1000000) (htl : ts.length ≤ 1000000) : MCalls Proofs.Tryz.prog 78 [aTr ps, .sl 6 (ts.map aPd)] [] (startK ps ts) := by
 have h1 := trace_Valid ps hs
 have hl := hs.procs
 by_cases hv : validF ps = true ∧ ts.length = ps.length
 ·have hvl : (ts.length : Int) = ps.length := by omega
  have hl1 := (valid_len hv.1).1
  rw [hv.1] at h1
  have hhit := fun p hp => conF_hit hv (p := p) hp
  have hzero := conF_zero hv
  have hnd := conj_needs ps hs hv.1 ts
  have hEn : (elimOf ps ts).n = ps.length := rfl
  have hrow := fun p (hp : p < ts.length) => truths_row (ps := ps) hp (by omega)
  have hB : ∀ f bb bn, boardL (elimOf ps ts) f bb bn = [(bb, .row 116 3 [.agg [.sl 1 (needT (elimOf ps ts)), .sl 1 (okM (elimOf ps ts)), .ls bn 1 0 (elimOf ps ts).n (elimOf ps ts).n]] 1), (bn, .row 3 1 (dnA (elimOf ps ts).n f) (elimOf ps ts).n)] := fun f bb bn => rfl
  unfold startK
  simp only [hB]
  clear hB
  generalize elimOf ps ts = E at *
  generalize conF ps ts = C at *
  refine MCalls.enter' 61 [.tmp 4, .tmp 5] [2, 8, 50] Proofs.Tryz.func78 rfl rfl rfl rfl rfl (by simp) (AWp.of ?_); simp only [go_sem]
  repeat (first | ((with_reducible refine AWp.ofC ?_ ?_); exact rfl; simp only [go_sem]) | ((with_reducible refine an ?_ ?_); exact Au))
  repeat ((with_reducible refine an ?_ ?_); exact As)
  refine (h1).val.use ?_; simp only [go_sem, hvl]
  repeat (first | ((with_reducible refine AWp.ofC ?_ ?_); exact rfl; simp only [go_sem, hvl]) | ((with_reducible refine an ?_ ?_); exact Au))
  intro bn
  repeat (first | ((with_reducible refine AWp.ofC ?_ ?_); exact rfl; simp only [go_sem]) | ((with_reducible refine an ?_ ?_); exact Au))
  intro bb g2
  have n1 : ¬ bb = bn := by omega
  have n2 : ¬ bn = bb := by omega
  repeat (first | ((with_reducible refine AWp.ofC ?_ ?_); exact rfl; simp only [go_sem]) | ((with_reducible refine an ?_ ?_); exact Au))
  refine AWp.range' ts.length [] [2, 6, 27, 28] (fun p vs L => ∃ v Lq, L = Lq ++ [(bb, .row 116 3 [.agg [anil, v, .ls bn 1 0 ps.length ps.length]] 1), (bn, .row 3 1 (List.replicate ps.length (ai 0)) ps.length)] ∧ AppSt 69 1 (okK E p) v Lq ∧ (∀ x ∈ Lq, x.1 ≠ bb ∧ x.1 ≠ bn) ∧ ∀ q (hq : q < ts.length), q < p → lclF ps q 0 ts[q] = 0) (by omega) rfl rfl rfl ⟨anil, [], rfl, .nil, by simp, fun q hq h => by omega⟩ ?_ ?_
  ·rintro p vs L hp - ⟨v, Lq, rfl, hA, hq, hJ⟩
   have hgt := getD_map (f := aPd) hp
   have htr := evaluate_Truths ps hs p ts[p] (hz _ (List.getElem_mem hp))
   have hro := hrow p hp
   have hh := hhit p hp hJ
   have hyl := okK_len E p
   rw [okK_succ]
   unfold aTruths at htr
   rw [Int.toNat_natCast, hro] at htr
   have hJ1 : lclF ps p 0 ts[p] = 0 → ∀ q (hq : q < ts.length), q < p + 1 → lclF ps q 0 ts[q] = 0 := fun e q hq h => by
    by_cases e2 : q = p
    ·subst e2; exact e
    ·exact hJ q hq (by omega)
   generalize lclF ps p 0 ts[p] = e at *
   generalize ts[p] = t at *
   generalize okL E p = ol at *
   generalize okK E p = ys at *
   obtain ⟨k0, n, pp, q0, s, l⟩ := t
   simp only [aPd_mk] at *
   have hfo := hA.fo
   by_cases he : e = 0
   ·rw [if_pos he] at htr
    subst he
    rcases hA.inv with ⟨e1, rfl, rfl⟩ | ⟨bq, cap, rfl, rfl⟩
    ·simp only [go_sem, List.nil_append]
     repeat (first | ((with_reducible refine AWp.ofC ?_ ?_); exact rfl; simp only [go_sem, hgt]) | ((with_reducible refine an ?_ ?_); exact Au))
     intros
     repeat (first | ((with_reducible refine AWp.ofC ?_ ?_); exact rfl; simp only [go_sem]) | ((with_reducible refine an ?_ ?_); exact Au))
     repeat ((with_reducible refine an ?_ ?_); exact As)
     refine (htr).val.use ?_; simp only [go_sem]
     repeat (first | ((with_reducible refine AWp.ofC ?_ ?_); exact rfl; simp only [go_sem, n1]) | ((with_reducible refine an ?_ ?_); exact Au))
     intro b' cap' g8 g9 _
     have n3 : ¬ b' = bb ∧ ¬ b' = bn := by omega
     have n4 : ¬ bb = b' := by omega
     simp only [go_sem, n4]
     refine ⟨_, List.Sublist.refl _, .ls b' 1 0 1 cap', [(b', .row 69 1 [.sl 1 ol] cap')], rfl, ?_, ?_, hJ1 rfl⟩
     ·rw [e1]; exact .row _ _ _
     ·intro y hy; simp only [List.mem_singleton] at hy; subst hy; exact n3
    ·have nq := hq (bq, .row 69 1 ys cap) (by simp)
     simp only at nq
     have nq1 : ¬ bb = bq := fun e => nq.1 e.symm
     have nq2 : ¬ bn = bq := fun e => nq.2 e.symm
     simp only [go_sem, List.cons_append, List.nil_append]
     repeat (first | ((with_reducible refine AWp.ofC ?_ ?_); exact rfl; simp only [go_sem, hgt]) | ((with_reducible refine an ?_ ?_); exact Au))
     intros
     repeat (first | ((with_reducible refine AWp.ofC ?_ ?_); exact rfl; simp only [go_sem]) | ((with_reducible refine an ?_ ?_); exact Au))
     repeat ((with_reducible refine an ?_ ?_); exact As)
     refine (htr).val.use ?_; simp only [go_sem]
     repeat (first | ((with_reducible refine AWp.ofC ?_ ?_); exact rfl; simp only [go_sem, n1, nq, nq1]) | ((with_reducible refine an ?_ ?_); exact Au))
     intro b' cap' g8 g9 _
     have n3 : ¬ b' = bb ∧ ¬ b' = bn := by omega
     have n4 : ¬ bb = b' := by omega
     simp only [go_sem, n4]
     refine ⟨_, List.Sublist.refl _, .ls b' 1 0 (ys.length + 1) cap', [(b', .row 69 1 (ys ++ [.sl 1 ol]) cap')], rfl, ?_, ?_, hJ1 rfl⟩
     ·have := AppSt.row (t := 69) (k := 1) b' (ys ++ [.sl 1 ol]) cap'
      simpa using this
     ·intro y hy; simp only [List.mem_singleton] at hy; subst hy; exact n3
   ·rw [if_neg he] at htr
    have hC := hh he
    rcases hA.inv with ⟨e1, rfl, rfl⟩ | ⟨bq, cap, rfl, rfl⟩
    ·simp only [go_sem, List.nil_append]
     repeat (first | ((with_reducible refine AWp.ofC ?_ ?_); exact rfl; simp only [go_sem, hgt]) | ((with_reducible refine an ?_ ?_); exact Au))
     intros
     repeat (first | ((with_reducible refine AWp.ofC ?_ ?_); exact rfl; simp only [go_sem]) | ((with_reducible refine an ?_ ?_); exact Au))
     repeat ((with_reducible refine an ?_ ?_); exact As)
     refine (htr).val.use ?_; simp only [go_sem]
     repeat (first | ((with_reducible refine AWp.ofC ?_ ?_); exact rfl; simp only [go_sem, he]) | ((with_reducible refine an ?_ ?_); exact Au))
     refine ret_sub [] (List.nil_sublist _) ?_
     simp only [go_sem]
     exact .inr ⟨by rw [hC]; exact he, by rw [hC]⟩
    ·simp only [go_sem, List.cons_append, List.nil_append]
     repeat (first | ((with_reducible refine AWp.ofC ?_ ?_); exact rfl; simp only [go_sem, hgt]) | ((with_reducible refine an ?_ ?_); exact Au))
     intros
     repeat (first | ((with_reducible refine AWp.ofC ?_ ?_); exact rfl; simp only [go_sem]) | ((with_reducible refine an ?_ ?_); exact Au))
     repeat ((with_reducible refine an ?_ ?_); exact As)
     refine (htr).val.use ?_; simp only [go_sem]
     repeat (first | ((with_reducible refine AWp.ofC ?_ ?_); exact rfl; simp only [go_sem, he]) | ((with_reducible refine an ?_ ?_); exact Au))
     refine ret_sub [] (List.nil_sublist _) ?_
     simp only [go_sem]
     exact .inr ⟨by rw [hC]; exact he, by rw [hC]⟩
  ·rintro vs L - ⟨v, Lq, rfl, hA, hq, hJ⟩
   have hyl := okK_len E ts.length
   have hC := hzero fun q hq => hJ q hq hq
   have hfin : okK E ts.length = okM E := by unfold okK okM; rw [hEn, hv.2]
   rw [hfin] at hA hyl
   have hdn : List.replicate ps.length (ai 0) = dnA E.n (fun _ => 0) := by unfold dnA; apply List.ext_getElem (by simp; omega); intro i h1 h2; simp
   rcases hA.inv with ⟨e1, rfl, rfl⟩ | ⟨bq, cap, rfl, rfl⟩
   ·rw [e1] at hyl; simp at hyl; omega
   ·have nq := hq (bq, .row 69 1 (okM E) cap) (by simp)
    simp only at nq
    have nq1 : ¬ bb = bq := fun e => nq.1 e.symm
    have nq2 : ¬ bn = bq := fun e => nq.2 e.symm
    simp only [go_sem, List.cons_append, List.nil_append]
    repeat (first | ((with_reducible refine AWp.ofC ?_ ?_); exact rfl; simp only [go_sem]) | ((with_reducible refine an ?_ ?_); exact Au))
    repeat ((with_reducible refine an ?_ ?_); exact As)
    refine (hnd).val.use ?_; simp only [go_sem, n1, nq1]
    repeat ((with_reducible refine an ?_ ?_); exact As)
    refine AWp.view (L' := [(bb, .row 116 3 [.agg [.sl 1 (needT E), .sl 1 (okM E), .ls bn 1 0 ps.length ps.length]] 1), (bn, .row 3 1 (List.replicate ps.length (ai 0)) ps.length)]) [true, false, false] [] ?_ (by simp) ?_
    ·simp only [pickT, pickF]
     exact .row (Vws.cons (.mkAgg (Vws.cons (.refl _) (Vws.cons (Vw.ofLs (if_pos rfl) rfl) (Vws.refl _)))) .nil) (.refl _)
    ·simp only [go_sem]
     repeat (first | ((with_reducible refine AWp.ofC ?_ ?_); exact rfl; simp only [go_sem]) | ((with_reducible refine an ?_ ?_); exact Au))
     refine ret_own ?_
     simp only [go_sem]
     refine ⟨hC, bb, bn, n2, rfl, ?_⟩
     rw [hdn, hEn]
 ·have hC := conF_bad hv
  unfold startK
  rw [hC]
  by_cases hv1 : validF ps = true
  ·have hvl : ¬ (ts.length : Int) = ps.length := fun e => hv ⟨hv1, by omega⟩
   rw [hv1] at h1
   refine MCalls.enter' 61 [.tmp 4, .tmp 5] [2, 8, 50] Proofs.Tryz.func78 rfl rfl rfl rfl rfl (by simp) (AWp.of ?_); simp only [go_sem]
   repeat (first | ((with_reducible refine AWp.ofC ?_ ?_); exact rfl; simp only [go_sem]) | ((with_reducible refine an ?_ ?_); exact Au))
   repeat ((with_reducible refine an ?_ ?_); exact As)
   refine (h1).val.use ?_; simp only [go_sem, hvl]
   repeat (first | ((with_reducible refine AWp.ofC ?_ ?_); exact rfl; simp only [go_sem]) | ((with_reducible refine an ?_ ?_); exact Au))
   refine ret_own ?_
   simp only [go_sem]
   exact .inr (by decide)
  ·rw [show validF ps = false by simpa using hv1] at h1
   refine MCalls.enter' 61 [.tmp 4, .tmp 5] [2, 8, 50] Proofs.Tryz.func78 rfl rfl rfl rfl rfl (by simp) (AWp.of ?_); simp only [go_sem]
   repeat (first | ((with_reducible refine AWp.ofC ?_ ?_); exact rfl; simp only [go_sem]) | ((with_reducible refine an ?_ ?_); exact Au))
   repeat ((with_reducible refine an ?_ ?_); exact As)
   refine (h1).val.use ?_; simp only [go_sem]
   repeat (first | ((with_reducible refine AWp.ofC ?_ ?_); exact rfl; simp only [go_sem]) | ((with_reducible refine an ?_ ?_); exact Au))
   refine ret_own ?_
   simp only [go_sem]
   exact .inr (by decide)
end Go.AL
end
section
namespace Go.AL
open Go Go.RowKit
set_option maxRecDepth 4000
theorem lostB_fin (E : Elim) : lostB E (finF E) = lostF E := by
 have h := run_lost (run_spec E) (inE_zero E)
 cases hl : lostF E with
 | true =>
  obtain ⟨q, hq, hlt⟩ := h.1 hl
  exact lostB_true hq hlt
 | false =>
  refine List.any_eq_false.2 fun q hq => ?_
  rw [hl] at h
  have h2 : ¬ ∃ q, q < E.n ∧ E.top q < finF E q := fun x => by cases h.2 x
  intro hd
  exact h2 ⟨q, List.mem_range.1 hq, of_decide_eq_true hd⟩
theorem run_small {E : Elim} (hE : SmE E) {now fin : Nat → Nat} {st : List Stp} {l : Bool} (h : RunR E now st fin l) (hI : InE E now) : ∀ q, q < E.n → fin q ≤ 1000001 := by
 induction h with
 | stop h => exact inE_small hE hI
 | lost h hl => exact fun q hq => (step_lost hI h hl).2 q hq (hE.top q)
 | go h hl hr ih => exact ih (inE_step hI hl)
noncomputable def aPossR (ps : List Pr) (ts : List Pd) : AV := if conF ps ts = 0 then .tup [aAns (ansOf (elimOf ps ts)), ai 0] else .tup [aAns noAns, ai (conF ps ts)]
theorem lkq {Lq L : AHeap} {b : Nat} (h : ∀ x ∈ Lq, x.1 ≠ b) : lk (Lq ++ L) b = lk L b := by
 induction Lq with
 | nil => rfl
 | cons y Lq ih =>
  obtain ⟨yb, yx⟩ := y
  have h0 : ¬ b = yb := fun e => h (yb, yx) (by simp) e.symm
  show (if b = yb then _ else _) = _
  rw [if_neg h0]
  exact ih fun x hx => h x (List.mem_cons_of_mem _ hx)
theorem MCalls.toPC {P : Program} {f : FuncId} {args : List AV} {K : AV → AHeap → Prop} {r' : AV} (h : MCalls P f args [] K) (hv : ∀ r L, K r L → Vw L r r') : PC P f args r' :=
 ⟨h.1, fun n w A vs hL hr => (h.2 n w A vs hL hr).mono fun e w' ⟨v, r, L', A', he, hK, hf, hA, hL', hk, hr'⟩ =>
  ⟨v, r', [], fun b => A' b ∨ keysOf L' b, he, ⟨rfl, rfl⟩, hf, fun b hb => hb.elim (hA b) (fun ⟨x, hx, e⟩ => by subst e; exact (hk x hx).elim (fun ⟨y, hy, _⟩ => by cases hy) (fun h => .inr (.inr h))), hL'.viewed (Lf := L') (Lk := []) (by simp) .nil, (by intro x hx; cases hx), hL'.view (Lf := L') (Lk := []) (by simp) (hv r L' hK) hr'⟩⟩
theorem conj_PossiblyK (ps : List Pr) (hs : Sm ps) (ts : List Pd) (hz : ∀ t ∈ ts, szF t ≤ 1000000) (htl : ts.length ≤ 1000000) (K : AV → AHeap → Prop)
  (k1 : conF ps ts = 0 → lostF (elimOf ps ts) = true → ∀ v Lq, AppSt 77 3 ((stepsF (elimOf ps ts)).map aStp) v Lq → K (.tup [.agg [ai 1, ab false, ai 4, anil, anil, anil, v, ai 0], ai 0]) Lq)
  (k2 : conF ps ts = 0 → lostF (elimOf ps ts) = false → ∀ b, K (.tup [.agg [ai 1, ab true, ai 1, .ls b 1 0 (elimOf ps ts).n (elimOf ps ts).n, anil, anil, anil, ai 0], ai 0]) [(b, .row 3 1 (dnA (elimOf ps ts).n (finF (elimOf ps ts))) (elimOf ps ts).n)])
  (k3 : conF ps ts ≠ 0 → K (.tup [.agg [ai 0, ab false, ai 0, anil, anil, anil, anil, ai 0], ai (conF ps ts)]) []) : MCalls Proofs.Tryz.prog 30 [aTr ps, .sl 6 (ts.map aPd)] [] K := by
 have h1 := conj_start ps hs ts hz htl
 have hE := elim_sm hs ts
 unfold startK at h1
 have hl := hs.procs
 have hEn : (elimOf ps ts).n = ps.length := rfl
 have hrun := run_spec (elimOf ps ts)
 have hlo := board_lost (elimOf ps ts) hE (finF (elimOf ps ts)) (run_small hE hrun (inE_zero _))
 rw [lostB_fin] at hlo
 have hst := fun bb bn hb => board_steps (elimOf ps ts) hE (fun _ => 0) (finF (elimOf ps ts)) (inE_zero _) (stepsF (elimOf ps ts)) (lostF (elimOf ps ts)) hrun bb bn hb
 have hB : ∀ f bb bn, boardL (elimOf ps ts) f bb bn = [(bb, .row 116 3 [.agg [.sl 1 (needT (elimOf ps ts)), .sl 1 (okM (elimOf ps ts)), .ls bn 1 0 (elimOf ps ts).n (elimOf ps ts).n]] 1), (bn, .row 3 1 (dnA (elimOf ps ts).n f) (elimOf ps ts).n)] := fun f bb bn => rfl
 generalize elimOf ps ts = E at *
 generalize conF ps ts = C at *
 generalize stepsF E = st at *
 generalize finF E = fin at *
 generalize lostF E = lo at *
 refine MCalls.enter' 30 [.cell 4 52, .tmp 5] [2] Proofs.Tryz.func30 rfl rfl rfl rfl rfl (by simp) (AWp.of ?_); simp only [go_sem]
 intro b4
 repeat (first | ((with_reducible refine AWp.ofC ?_ ?_); exact rfl; simp only [go_sem]) | ((with_reducible refine an ?_ ?_); exact Au))
 refine MVal.pass (Lf := []) (Li := []) (Lr := [(b4, .row 52 8 [.agg [ai 0, ab false, ai 0, anil, anil, anil, anil, ai 0]] 1)]) (by simp) (Vws.refl _) h1.val ?_
 rintro r L1 (⟨rfl, bb, bn, hb, rfl, rfl⟩ | ⟨hC, rfl, rfl⟩)
 ·refine ⟨_, .refl _, ?_⟩
  simp only [go_sem]
  refine AWp.nodup fun hnd => ?_
  have hb' : ¬ bb = bn := fun e => hb e.symm
  have hn4 : (¬ bb = b4 ∧ ¬ b4 = bb) ∧ (¬ bn = b4 ∧ ¬ b4 = bn) := by
   simp only [hB, List.cons_append, List.nil_append, List.map_cons, List.map_nil, List.nodup_cons, List.mem_cons, List.not_mem_nil, or_false, not_or] at hnd
   exact ⟨⟨hnd.1.2, fun e => hnd.1.2 e.symm⟩, ⟨hnd.2.1, fun e => hnd.2.1 e.symm⟩⟩
  clear hnd
  repeat (first | ((with_reducible refine AWp.ofC ?_ ?_); exact rfl; simp only [go_sem]) | ((with_reducible refine an ?_ ?_); exact Au))
  refine MVal.pass (Lf := []) (Li := boardL E (fun _ => 0) bb bn) (Lr := [(b4, .row 52 8 [.agg [ai 0, ab false, ai 0, anil, anil, anil, anil, ai 0]] 1)]) (.refl _) (Vws.refl _) (hst bb bn hb).val ?_
  rintro r L1 ⟨Lq, hA, rfl, hq⟩
  refine ⟨_, .refl _, ?_⟩
  have hfo := hA.fo
  simp only [go_sem, hfo]
  refine AWp.nodup fun hnd => ?_
  have hq4 : ∀ x ∈ Lq, x.1 ≠ b4 := fun x hx e => by
   rw [List.append_assoc, List.map_append, List.nodup_append] at hnd
   refine hnd.2.2 _ (List.mem_map_of_mem hx) b4 ?_ e
   simp
  clear hnd
  have hvw : Vws ((Lq ++ boardL E fin bb bn) ++ [(b4, .row 52 8 [.agg [ai 0, ab false, ai 0, anil, anil, anil, anil, ai 0]] 1)]) [.lp bb 3 0 0] [aBoard E fin] := by
   rw [List.append_assoc]
   refine board_viewL (bn := bn) ?_ ?_ []
   ·rw [lkq fun x hx => (hq x hx).1, hB]; simp only [List.cons_append, List.nil_append, lk, if_true]
   ·rw [lkq fun x hx => (hq x hx).2, hB]; simp only [List.cons_append, List.nil_append, lk, hb, if_false, if_true]
  repeat (first | ((with_reducible refine AWp.ofC ?_ ?_); exact rfl; simp only [go_sem]) | ((with_reducible refine an ?_ ?_); exact Au))
  refine (PC.view hvw hlo (Own.v _) ?_).val
  rw [hB] at *
  cases lo with
  | true =>
   rcases hA.inv with ⟨e1, rfl, rfl⟩ | ⟨bq, cap, rfl, rfl⟩
   ·simp only [go_sem, List.nil_append]
    repeat (first | ((with_reducible refine AWp.ofC ?_ ?_); exact rfl; simp only [go_sem, hn4]) | ((with_reducible refine an ?_ ?_); exact Au))
    refine ret_sub [] (List.nil_sublist _) ?_
    simp only [go_sem, hn4]
    exact k1 rfl rfl _ _ hA
   ·have nq4 := hq4 (bq, .row 77 3 (st.map aStp) cap) (by simp)
    simp only at nq4
    have nq4' : ¬ b4 = bq := fun e => nq4 e.symm
    simp only [go_sem, List.cons_append, List.nil_append]
    repeat (first | ((with_reducible refine AWp.ofC ?_ ?_); exact rfl; simp only [go_sem, hn4, nq4']) | ((with_reducible refine an ?_ ?_); exact Au))
    refine ret_sub [(bq, .row 77 3 (st.map aStp) cap)] (by simp) ?_
    simp only [go_sem, hn4, nq4']
    have := k1 rfl rfl _ _ hA
    simpa using this
  | false =>
   rcases hA.inv with ⟨e1, rfl, rfl⟩ | ⟨bq, cap, rfl, rfl⟩
   ·simp only [go_sem, List.nil_append]
    repeat (first | ((with_reducible refine AWp.ofC ?_ ?_); exact rfl; simp only [go_sem, hn4, hb']) | ((with_reducible refine an ?_ ?_); exact Au))
    refine ret_sub [(bn, .row 3 1 (dnA E.n fin) E.n)] (by simp) ?_
    simp only [go_sem, hn4]
    exact k2 rfl rfl _
   ·have nq4 := hq4 (bq, .row 77 3 (st.map aStp) cap) (by simp)
    simp only at nq4
    have nq4' : ¬ b4 = bq := fun e => nq4 e.symm
    have nq := hq (bq, .row 77 3 (st.map aStp) cap) (by simp)
    simp only at nq
    have nqa : ¬ bb = bq ∧ ¬ bn = bq := ⟨fun e => nq.1 e.symm, fun e => nq.2 e.symm⟩
    simp only [go_sem, List.cons_append, List.nil_append]
    repeat (first | ((with_reducible refine AWp.ofC ?_ ?_); exact rfl; simp only [go_sem, hn4, nq4', hb', nqa]) | ((with_reducible refine an ?_ ?_); exact Au))
    refine ret_sub [(bn, .row 3 1 (dnA E.n fin) E.n)] (by simp) ?_
    simp only [go_sem, hn4, nq4']
    exact k2 rfl rfl _
 ·refine ⟨_, .refl _, ?_⟩
  simp only [go_sem, List.nil_append]
  repeat (first | ((with_reducible refine AWp.ofC ?_ ?_); exact rfl; simp only [go_sem, hC]) | ((with_reducible refine an ?_ ?_); exact Au))
  refine ret_sub [] (List.nil_sublist _) ?_
  simp only [go_sem]
  exact k3 hC
theorem conj_Possibly (ps : List Pr) (hs : Sm ps) (ts : List Pd) (hz : ∀ t ∈ ts, szF t ≤ 1000000) (htl : ts.length ≤ 1000000) : PC Proofs.Tryz.prog 30 [aTr ps, .sl 6 (ts.map aPd)] (aPossR ps ts) := by
 refine (conj_PossiblyK ps hs ts hz htl (fun r L => Vw L r (aPossR ps ts)) (fun h hl v Lq hA => ?_) (fun h hl b => ?_) (fun h => ?_)).toPC fun _ _ h => h
 ·unfold aPossR ansOf
  rw [if_pos h, hl, if_pos rfl]
  refine .mkTup (Vws.cons (.mkAgg ?_) (Vws.refl _))
  refine Vws.cons (.refl _) (Vws.cons (.refl _) (Vws.cons (.refl _) (Vws.cons (.nil 1) (Vws.cons (.nil 1) (Vws.cons (.nil 1) (Vws.cons ?_ (Vws.refl _)))))))
  rw [← aStp_I]
  have := hA.vw []
  rwa [List.append_nil] at this
 ·unfold aPossR ansOf
  rw [if_pos h, hl, if_neg (by decide)]
  refine .mkTup (Vws.cons (.mkAgg ?_) (Vws.refl _))
  refine Vws.cons (.refl _) (Vws.cons (.refl _) (Vws.cons (.refl _) (Vws.cons ?_ (Vws.cons (.nil 1) (Vws.cons (.nil 1) (Vws.cons (.nil 3) (Vws.refl _)))))))
  rw [← dnA_I]
  exact Vw.ofLs (if_pos rfl) (dnA_length _ _).symm
 ·unfold aPossR
  rw [if_neg h]
  refine .mkTup (Vws.cons (.mkAgg ?_) (Vws.refl _))
  exact Vws.cons (.refl _) (Vws.cons (.refl _) (Vws.cons (.refl _) (Vws.cons (.nil 1) (Vws.cons (.nil 1) (Vws.cons (.nil 1) (Vws.cons (.nil 3) (Vws.refl _)))))))
end Go.AL
end
section
namespace Go.AL
open Go Go.RowKit
set_option maxRecDepth 4000
end Go.AL
end
section
namespace Go.AL
open Go Go.RowKit
set_option maxRecDepth 4000
theorem run_inv {E : Elim} {now fin : Nat → Nat} {st : List Stp} {l : Bool} {p : Nat} (h : RunR E now st fin l) (hp : stepP E now = some p) : (E.top p < goF E now p ∧ st = [(p, now p, goF E now p - 1)] ∧ fin = updN now p (goF E now p) ∧ l = true) ∨ (goF E now p ≤ E.top p ∧ ∃ st', st = (p, now p, goF E now p - 1) :: st' ∧ RunR E (updN now p (goF E now p)) st' fin l) := by
 cases h with
 | stop h => rw [h] at hp; cases hp
 | lost h hl => rw [h] at hp; cases hp; exact .inl ⟨hl, rfl, rfl, rfl⟩
 | go h hl hr => rw [h] at hp; cases hp; exact .inr ⟨hl, _, rfl, hr⟩
theorem run_none {E : Elim} {now fin : Nat → Nat} {st : List Stp} {l : Bool} (h : RunR E now st fin l) (hp : stepP E now = none) : st = [] ∧ fin = now ∧ l = false := by
 cases h with
 | stop h => exact ⟨rfl, rfl, rfl⟩
 | lost h hl => rw [h] at hp; cases hp
 | go h hl hr => rw [h] at hp; cases hp
theorem ref37_Steps (ps : List Pr) (hs : Sm ps) (ts : List Pd) (hz : ∀ t ∈ ts, szF t ≤ 1000000) (htl : ts.length ≤ 1000000) (hf : conF ps ts = 0) :
  PC Proofs.Tryz.prog 35 [aTr ps, .sl 6 (ts.map aPd)] (.tup [.sl 3 ((stepsF (elimOf ps ts)).map aStp), .sl 1 (dnA ps.length (finF (elimOf ps ts))), ab (lostF (elimOf ps ts))]) := by
 have hl := hs.procs
 have hE := elim_sm hs ts
 have hrun := run_spec (elimOf ps ts)
 have hexc := fun now hI p k hp hk => ref37_Excluded ps hs ts hz htl hf now hI p k hp hk
 have hEn : (elimOf ps ts).n = ps.length := rfl
 have htop : ∀ p (hp : p < ps.length), (elimOf ps ts).top p = ps[p].evs.length := fun p hp => nev_get hp
 generalize elimOf ps ts = E at *
 generalize stepsF E = st at *
 generalize finF E = fin at *
 generalize lostF E = lo at *
 have hroom : roomE E (fun _ => 0) ≤ E.n * 1000001 := totS_le _ fun q hq => by have := hE.top q; omega
 refine PC.enter 88 [.tmp 4, .tmp 5, .tmp 6] [2, 71] Proofs.Tryz.func35 rfl rfl rfl rfl rfl (by simp) (AWp.of ?_); simp only [go_sem]
 repeat (first | ((with_reducible refine AWp.ofC ?_ ?_); exact rfl; simp only [go_sem]) | ((with_reducible refine an ?_ ?_); exact Au))
 repeat ((with_reducible refine an ?_ ?_); exact As)
 intro b7
 repeat ((with_reducible refine an ?_ ?_); exact As)
 refine AWp.of ?_; simp only [go_sem]
 rw [show List.replicate ps.length (ai 0) = dnA ps.length (fun _ => 0) by unfold dnA; apply List.ext_getElem (by simp); intro i h1 h2; simp]
 refine AWp.block (AWp.loopN [8] [1, 2, 7] (fun m vs L => ∃ (f : Nat → Nat) (acc st' : List Stp) (v : AV) (Lq : AHeap), vs = [v] ∧ L.Perm ((b7, .row 3 1 (dnA ps.length f) ps.length) :: Lq) ∧ AppSt 77 3 (acc.map aStp) v Lq ∧ (∀ x ∈ Lq, x.1 ≠ b7) ∧ acc ++ st' = st ∧ InE E f ∧ RunR E f st' fin lo ∧ m = roomE E f ∧ acc.length + roomE E f ≤ roomE E fun _ => 0) (roomE E fun _ => 0) ?_ ?_)
 ·exact ⟨_, [], st, anil, [], rfl, .refl _, .nil, by simp, rfl, inE_zero E, hrun, rfl, by simp⟩
 ·rintro m vs L - ⟨f, acc, st', v, Lq, rfl, hP, hA, hq, hacc, hI, hR, rfl, hrm⟩
  refine AWp.perm hP ?_
  have hvw : ∀ xs : List AV, Vws ((b7, .row 3 1 (dnA ps.length f) ps.length) :: Lq) (aTr ps :: .sl 6 (ts.map aPd) :: .ls b7 1 0 ps.length ps.length :: xs) (aTr ps :: .sl 6 (ts.map aPd) :: .sl 1 (dnA ps.length f) :: xs) := fun xs => Vws.cons (.refl _) (Vws.cons (.refl _) (Vws.cons (Vw.ofLs (t := 3) (cap := ps.length) (by simp only [lk, if_true]) (dnA_length _ _).symm) (Vws.refl _)))
  simp only [go_sem]
  repeat (first | ((with_reducible refine AWp.ofC ?_ ?_); exact rfl; simp only [go_sem]) | ((with_reducible refine an ?_ ?_); exact Au))
  refine AWp.seq (AWp.block (AWp.loopN [9] [1, 2, 7, 8] (fun m vs L => L = (b7, .row 3 1 (dnA ps.length f) ps.length) :: Lq ∧ ∃ p : Nat, p ≤ ps.length ∧ m = ps.length - p ∧ vs = [ai p] ∧ ∀ q, q < p → exB E f q (f q) = false) ps.length ?_ ?_))
  ·exact ⟨rfl, 0, by omega, rfl, rfl, fun q hq => by omega⟩
  rintro m vs L - ⟨rfl, p, hp, rfl, rfl, hJ⟩
  by_cases hpn : p < ps.length
  ·have gn := dnA_get hpn f
   have hfp : f p ≤ ps[p].evs.length := by have := hI p (by omega); rw [htop p hpn] at this; exact this
   have hx := hexc f hI p (f p) hpn hfp
   have hel := hs.evs _ (List.getElem_mem hpn)
   have hgp := getD_map (f := aPr) hpn
   have hti : (p : Int) < ps.length := by omega
   have hne : ¬ (p : Int) = ps.length := by omega
   simp only [go_sem]
   refine AWp.seq (AWp.seq ?_)
   refine AWp.read mixed [0, 1, 2, 3, 4, 5, 6, 7, 8, 9, 10, 11, 12, 13, 14, 15] (by kernel_rfl) ?_; simp only [go_sem, gn, dnA_length, hti]
   repeat ((with_reducible refine an ?_ ?_); exact As)
   refine GCall.use (ab (exB E f p (f p))) ?_ ?_
   ·intro g; exact ⟨At, (PC.view (hvw _) hx (Own.v _) ⟨rfl, rfl⟩).val⟩
   simp only [go_sem]
   repeat ((with_reducible refine an ?_ ?_); exact As)
   cases hb : exB E f p (f p) with
   | false =>
    simp only [go_sem]
    repeat (first | ((with_reducible refine AWp.ofC ?_ ?_); exact rfl; simp only [go_sem]) | ((with_reducible refine an ?_ ?_); exact Au))
    refine ⟨_, List.Sublist.refl _, _, by omega, rfl, p + 1, by omega, rfl, by rw [show ((p + 1 : Nat) : Int) = (p : Int) + 1 by omega], fun q hq => ?_⟩
    by_cases e : q = p
    ·subst e; exact hb
    ·exact hJ q (by omega)
   | true =>
    have hsp : stepP E f = some p := find_range_of (by omega) hb hJ
    obtain ⟨_, _, _, s4, s5, _, s7⟩ := step_inv hI hsp
    rw [htop p hpn] at s5
    have hexk := fun k (hk : k ≤ ps[p].evs.length) => hexc f hI p k hpn hk
    simp only [go_sem]
    repeat (first | ((with_reducible refine AWp.ofC ?_ ?_); exact rfl; simp only [go_sem, hne, gn, dnA_length]) | ((with_reducible refine an ?_ ?_); exact Au))
    refine AWp.seq (AWp.block (AWp.loopN [10] [1, 2, 7, 8, 9] (fun m vs L => L = (b7, .row 3 1 (dnA ps.length f) ps.length) :: Lq ∧ ∃ k : Nat, k ≤ ps[p].evs.length + 1 ∧ m = ps[p].evs.length + 1 - k ∧ vs = [ai k] ∧ goF E f p = nextK (exB E f p) (E.top p) k) (ps[p].evs.length + 1 - f p) ?_ ?_))
    ·exact ⟨rfl, f p, by omega, rfl, rfl, rfl⟩
    rintro m vs L - ⟨rfl, k, hk, rfl, rfl, hgo⟩
    simp only [go_sem]
    repeat (first | ((with_reducible refine AWp.ofC ?_ ?_); exact rfl; simp only [go_sem, hgp]) | ((with_reducible refine an ?_ ?_); exact Au))
    refine GCall.use (ab (exB E f p k)) ?_ ?_
    ·intro g; exact ⟨At, (PC.view (hvw _) (hexk k (by omega)) (Own.v _) ⟨rfl, rfl⟩).val⟩
    simp only [go_sem]
    repeat ((with_reducible refine an ?_ ?_); exact As)
    repeat (first | ((with_reducible refine AWp.ofC ?_ ?_); exact rfl; simp only [go_sem]) | ((with_reducible refine an ?_ ?_); exact Au))
    refine ⟨fun h5 h6 => ?_, fun h5 => ?_⟩
    ·repeat (first | ((with_reducible refine AWp.ofC ?_ ?_); exact rfl; simp only [go_sem]) | ((with_reducible refine an ?_ ?_); exact Au))
     refine ⟨_, List.Sublist.refl _, _, by omega, rfl, k + 1, by omega, rfl, by rw [show ((k + 1 : Nat) : Int) = (k : Int) + 1 by omega], ?_⟩
     rw [hgo, nextK_hit (by rw [htop p hpn]; omega) h6]
    ·have hgk : goF E f p = k := by
      rw [hgo, nextK_stop]
      rintro ⟨h7, h8⟩
      rw [htop p hpn] at h7
      have := h5 (by omega)
      rw [h8] at this; cases this
     have hin := run_inv hR hsp
     rw [hgk] at s4 s5 s7 hin
     have hac : acc.length ≤ 10000010000000 := by
      have : E.n * 1000001 ≤ 1000000 * 1000001 := Nat.mul_le_mul_right _ (by omega)
      omega
     have hkc : ((k - 1 : Nat) : Int) = (k : Int) - 1 := by omega
     have hset : (dnA ps.length f).set p (ai k) = dnA ps.length (updN f p k) := dnA_set (by rw [updN_self]) fun q hq => updN_ne hq
     have hacl : (acc.map aStp).length = acc.length := List.length_map _
     have hone : [(p, f p, k - 1)].map aStp = [.agg [ai p, ai (f p), ai ((k : Int) - 1)]] := by rw [← hkc]; rfl
     have hfo := hA.fo
     have hap : (acc ++ [(p, f p, k - 1)]).map aStp = acc.map aStp ++ [.agg [ai p, ai (f p), ai ((k : Int) - 1)]] := by rw [List.map_append, hone]
     have hgo2 : E.top p = ps[p].evs.length := htop p hpn
     rcases hin with ⟨i1, rfl, rfl, rfl⟩ | ⟨i1, st2, rfl, i2⟩
     ·have hgt : (ps[p].evs.length : Int) < k := by omega
      subst hacc
      rw [hap]
      generalize hys : acc.map aStp = ys at *
      rcases hA.inv with ⟨e3, rfl, rfl⟩ | ⟨bq, cap, rfl, rfl⟩
      ·repeat (first | ((with_reducible refine AWp.ofC ?_ ?_); exact rfl; simp only [go_sem, gn, dnA_length]) | ((with_reducible refine an ?_ ?_); exact Au))
       intro b' cap' g8 _
       have n1 : ¬ b7 = b' := by omega
       have n2 : ¬ b' = b7 := by omega
       repeat (first | ((with_reducible refine AWp.ofC ?_ ?_); exact rfl; simp only [go_sem, gn, dnA_length, hgp, hgt, n1, hset]) | ((with_reducible refine an ?_ ?_); exact Au))
       refine ret_view [true, true] ?_; simp only [go_sem]
       rw [e3]
       exact .mkTup (Vws.cons (Vw.ofLs (if_pos rfl) rfl) (Vws.cons (Vw.ofLs (t := 3) (cap := ps.length) (by simp only [lk, n1, if_false, if_true]) (dnA_length _ _).symm) (Vws.refl _)))
      ·have nq : ¬ bq = b7 := hq (bq, .row 77 3 ys cap) (by simp)
       have nq' : ¬ b7 = bq := fun e => nq e.symm
       repeat (first | ((with_reducible refine AWp.ofC ?_ ?_); exact rfl; simp only [go_sem, gn, dnA_length, nq, nq']) | ((with_reducible refine an ?_ ?_); exact Au))
       intro b' cap' g8 _
       have n2 : ¬ b' = b7 := fun e => g8 e.symm
       repeat (first | ((with_reducible refine AWp.ofC ?_ ?_); exact rfl; simp only [go_sem, gn, dnA_length, hgp, hgt, g8, hset]) | ((with_reducible refine an ?_ ?_); exact Au))
       refine ret_view [true, true] ?_; simp only [go_sem]
       exact .mkTup (Vws.cons (Vw.ofLs (if_pos rfl) (by simp)) (Vws.cons (Vw.ofLs (t := 3) (cap := ps.length) (by simp only [lk, g8, if_false, if_true]) (dnA_length _ _).symm) (Vws.refl _)))
     ·have hgt : ¬ (ps[p].evs.length : Int) < k := by omega
      have hI' : InE E (updN f p k) := fun q hq => by
       by_cases e : q = p
       ·subst e; rw [updN_self]; exact i1
       ·rw [updN_ne e]; exact hI q hq
      have hacc' : (acc ++ [(p, f p, k - 1)]) ++ st2 = st := by rw [List.append_assoc]; exact hacc
      have hlen2 : (acc ++ [(p, f p, k - 1)]).length = acc.length + 1 := by simp
      generalize acc ++ [(p, f p, k - 1)] = acc2 at *
      generalize hys : acc.map aStp = ys at *
      rcases hA.inv with ⟨e3, rfl, rfl⟩ | ⟨bq, cap, rfl, rfl⟩
      ·repeat (first | ((with_reducible refine AWp.ofC ?_ ?_); exact rfl; simp only [go_sem, gn, dnA_length]) | ((with_reducible refine an ?_ ?_); exact Au))
       intro b' cap' g8 _
       have n1 : ¬ b7 = b' := by omega
       have n2 : ¬ b' = b7 := by omega
       repeat (first | ((with_reducible refine AWp.ofC ?_ ?_); exact rfl; simp only [go_sem, gn, dnA_length, hgp, hgt, n1, hset]) | ((with_reducible refine an ?_ ?_); exact Au))
       refine ⟨_, List.Sublist.refl _, _, s7, updN f p k, acc2, st2, _, [(b', .row 77 3 [.agg [ai p, ai (f p), ai ((k : Int) - 1)]] cap')], rfl, .swap _ _ _, ?_, fun x hx => ?_, hacc', hI', i2, rfl, by rw [hlen2]; omega⟩
       ·rw [hap, e3]
        exact .row _ _ _
       ·simp only [List.mem_singleton] at hx
        subst hx
        exact n2
      ·have nq : ¬ bq = b7 := hq (bq, .row 77 3 ys cap) (by simp)
       have nq' : ¬ b7 = bq := fun e => nq e.symm
       repeat (first | ((with_reducible refine AWp.ofC ?_ ?_); exact rfl; simp only [go_sem, gn, dnA_length, nq, nq']) | ((with_reducible refine an ?_ ?_); exact Au))
       intro b' cap' g8 _
       have n2 : ¬ b' = b7 := fun e => g8 e.symm
       repeat (first | ((with_reducible refine AWp.ofC ?_ ?_); exact rfl; simp only [go_sem, gn, dnA_length, hgp, hgt, g8, hset]) | ((with_reducible refine an ?_ ?_); exact Au))
       refine ⟨_, List.Sublist.refl _, _, s7, updN f p k, acc2, st2, _, [(b', .row 77 3 (ys ++ [.agg [ai p, ai (f p), ai ((k : Int) - 1)]]) cap')], rfl, .swap _ _ _, ?_, fun x hx => ?_, hacc', hI', i2, rfl, by rw [hlen2]; omega⟩
       ·rw [hap]
        have := AppSt.row (t := 77) (k := 3) b' (ys ++ [.agg [ai p, ai (f p), ai ((k : Int) - 1)]]) cap'
        simpa using this
       ·simp only [List.mem_singleton] at hx
        subst hx
        exact n2
  ·have hpe : p = ps.length := by omega
   subst hpe
   have hsn : stepP E f = none := find_range_no fun q hq => hJ q (by omega)
   obtain ⟨rfl, rfl, rfl⟩ := run_none hR hsn
   rw [List.append_nil] at hacc
   subst hacc
   have hni : ¬ (ps.length : Int) < ps.length := by omega
   generalize hys : acc.map aStp = ys at *
   rcases hA.inv with ⟨e3, rfl, rfl⟩ | ⟨bq, cap, rfl, rfl⟩
   ·simp only [go_sem]
    refine AWp.seq (AWp.seq ?_)
    refine AWp.read mixed [0, 1, 2, 3, 4, 5, 6, 7, 8, 9, 10, 11, 12, 13, 14, 15] (by kernel_rfl) ?_; simp only [go_sem, dnA_length, hni]
    refine GCall.use (ab false) (fun g => g.elim) ?_
    simp only [go_sem]
    repeat (first | ((with_reducible refine AWp.ofC ?_ ?_); exact rfl; simp only [go_sem]) | ((with_reducible refine an ?_ ?_); exact Au))
    refine ret_view [true] ?_; simp only [go_sem]
    rw [e3]
    exact .mkTup (Vws.cons (.nil 3) (Vws.cons (Vw.ofLs (if_pos rfl) (dnA_length _ _).symm) (Vws.refl _)))
   ·have nq : ¬ bq = b7 := hq (bq, .row 77 3 ys cap) (by simp)
    have nq' : ¬ b7 = bq := fun e => nq e.symm
    simp only [go_sem]
    refine AWp.seq (AWp.seq ?_)
    refine AWp.read mixed [0, 1, 2, 3, 4, 5, 6, 7, 8, 9, 10, 11, 12, 13, 14, 15] (by kernel_rfl) ?_; simp only [go_sem, dnA_length, hni]
    refine GCall.use (ab false) (fun g => g.elim) ?_
    simp only [go_sem]
    repeat (first | ((with_reducible refine AWp.ofC ?_ ?_); exact rfl; simp only [go_sem]) | ((with_reducible refine an ?_ ?_); exact Au))
    refine ret_view [true, true] ?_; simp only [go_sem]
    exact .mkTup (Vws.cons (Vw.ofLs (t := 77) (cap := cap) (by simp only [lk, nq, if_false, if_true]) rfl) (Vws.cons (Vw.ofLs (if_pos rfl) (dnA_length _ _).symm) (Vws.refl _)))
theorem ref37_Possibly (ps : List Pr) (hs : Sm ps) (ts : List Pd) (hz : ∀ t ∈ ts, szF t ≤ 1000000) (htl : ts.length ≤ 1000000) (hf : conF ps ts = 0) : PC Proofs.Tryz.prog 37 [aTr ps, .sl 6 (ts.map aPd)] (aAns (ansOf (elimOf ps ts))) := by
 have h1 := ref37_Steps ps hs ts hz htl hf
 have hEn : (elimOf ps ts).n = ps.length := rfl
 unfold ansOf
 rw [hEn]
 generalize elimOf ps ts = E at *
 generalize stepsF E = st at *
 generalize finF E = fin at *
 generalize lostF E = lo at *
 cases lo with
 | true =>
  rw [if_pos rfl]
  refine PC.enter 20 [.cell 4 52] [2] Proofs.Tryz.func37 rfl rfl rfl rfl rfl (by simp) (AWp.of ?_); simp only [go_sem]
  intro b4
  repeat (first | ((with_reducible refine AWp.ofC ?_ ?_); exact rfl; simp only [go_sem]) | ((with_reducible refine an ?_ ?_); exact Au))
  repeat ((with_reducible refine an ?_ ?_); exact As)
  refine (h1).val.use ?_; simp only [go_sem]
  repeat (first | ((with_reducible refine AWp.ofC ?_ ?_); exact rfl; simp only [go_sem]) | ((with_reducible refine an ?_ ?_); exact Au))
  refine ret_view [] ?_; simp only [go_sem]
  refine .mkAgg ?_
  refine Vws.cons (.refl _) (Vws.cons (.refl _) (Vws.cons (.refl _) (Vws.cons (.nil 1) (Vws.cons (.nil 1) (Vws.cons (.nil 1) (Vws.cons ?_ (Vws.refl _)))))))
  rw [aStp_I]
  exact .refl _
 | false =>
  rw [if_neg (by decide)]
  refine PC.enter 20 [.cell 4 52] [2] Proofs.Tryz.func37 rfl rfl rfl rfl rfl (by simp) (AWp.of ?_); simp only [go_sem]
  intro b4
  repeat (first | ((with_reducible refine AWp.ofC ?_ ?_); exact rfl; simp only [go_sem]) | ((with_reducible refine an ?_ ?_); exact Au))
  repeat ((with_reducible refine an ?_ ?_); exact As)
  refine (h1).val.use ?_; simp only [go_sem]
  repeat (first | ((with_reducible refine AWp.ofC ?_ ?_); exact rfl; simp only [go_sem]) | ((with_reducible refine an ?_ ?_); exact Au))
  refine ret_view [] ?_; simp only [go_sem]
  refine .mkAgg ?_
  refine Vws.cons (.refl _) (Vws.cons (.refl _) (Vws.cons (.refl _) (Vws.cons ?_ (Vws.cons (.nil 1) (Vws.cons (.nil 1) (Vws.cons (.nil 3) (Vws.refl _)))))))
  rw [dnA_I]
  exact .refl _
end Go.AL
end
