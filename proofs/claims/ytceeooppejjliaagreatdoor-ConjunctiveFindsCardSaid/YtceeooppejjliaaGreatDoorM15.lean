/- Texts of this claim's proof: WCut2+1, WTl+1, WEl+1, WBd+1, WCl+1, WSb+1, WSr+1, WOf+1, WWl+1, WSp+1, WBig+1, WHu+1, AlBr2+1, WRt2+1, AlRed, WEx, WRr. No condition. -/
import Derived.Test.YtceeooppejjliaaGreatDoorM0
import Derived.Test.YtceeooppejjliaaGreatDoorM1
import Derived.Test.YtceeooppejjliaaGreatDoorM2
import Derived.Test.YtceeooppejjliaaGreatDoorM3
import Derived.Test.YtceeooppejjliaaGreatDoorM4
import Derived.Test.YtceeooppejjliaaGreatDoorM5
import Derived.Test.YtceeooppejjliaaGreatDoorM6
import Derived.Test.YtceeooppejjliaaGreatDoorM7
import Derived.Test.YtceeooppejjliaaGreatDoorM8
import Derived.Test.YtceeooppejjliaaGreatDoorM9
import Derived.Test.YtceeooppejjliaaGreatDoorM10
import Derived.Test.YtceeooppejjliaaGreatDoorM11
import Derived.Test.YtceeooppejjliaaGreatDoorM12
import Derived.Test.YtceeooppejjliaaGreatDoorM13
import Derived.Test.YtceeooppejjliaaGreatDoorM14
section
namespace Go.AL
open Go Go.RowKit
set_option maxRecDepth 4000
theorem closedF_iff (ps : List Pr) (c : List Int) : closedF ps c = (missF ps c).isNone := by
  unfold closedF missF
  cases h : (evIds ps).find? (badEv ps c) with
  | none =>
    rw [List.find?_eq_none] at h
    have : (evIds ps).any (badEv ps c) = false := by rw [List.any_eq_false]; exact h
    rw [this]; rfl
  | some x =>
    have : (evIds ps).any (badEv ps c) = true := List.any_eq_true.2 ⟨x, List.mem_of_find?_eq_some h, List.find?_some h⟩
    rw [this]; rfl
end Go.AL
end
section
namespace Go.AL
open Go Go.RowKit
set_option maxRecDepth 4000
theorem closed_iff {ps : List Pr} {c : List Int} : closedF ps c = true ↔ ∀ (p : Nat) (hp : p < ps.length) (i : Nat) (hi : i < ps[p].evs.length), ps[p].evs[i].kind = 3 → (i : Int) + 1 ≤ cAt c p → (sndr ps ps[p].evs[i].msg).2 ≤ cAt c (sndr ps ps[p].evs[i].msg).1 := by
  unfold closedF
  rw [Bool.not_eq_true', List.any_eq_false]
  constructor
  · intro h p hp i hi hk hc
    have := h _ (List.mem_of_getElem? (evIds_get hp hi))
    unfold badEv at this
    simp only [Bool.and_eq_true, decide_eq_true_eq, not_and] at this
    have := this ⟨hk, hc⟩
    unfold sndr
    omega
  · intro h x hx
    obtain ⟨k, hk⟩ := List.getElem?_of_mem hx
    obtain ⟨p, hp, i, hi, _, rfl⟩ := evIds_inv hk
    unfold badEv
    simp only [Bool.and_eq_true, decide_eq_true_eq, not_and]
    rintro ⟨h1, h2⟩
    have := h p hp i hi h1 h2
    unfold sndr at this
    omega
section
variable {ps : List Pr} {c j : List Int}
end
end Go.AL
end
section
namespace Go.AL
open Go Go.RowKit
set_option maxRecDepth 4000
section
variable {ex : Nat → Bool} {top k : Nat}
end
theorem find_range_none {n : Nat} {f : Nat → Bool} (h : (List.range n).find? f = none) : ∀ q, q < n → f q = false := fun q hq => by
  rw [List.find?_eq_none] at h
  simpa using h q (List.mem_range.2 hq)
end Go.AL
end
section
namespace Go.AL
open Go Go.RowKit
set_option maxRecDepth 4000
section
variable {E : Elim} {p q m k : Nat}
end
theorem board_view {E : Elim} {now : Nat → Nat} {bb bn : Nat} (hb : ¬ bn = bb) : Vw (boardL E now bb bn) (.lp bb 3 0 0) (aBoard E now) := by
  have h1 : lk (boardL E now bb bn) bb = some (.row 116 3 [.agg [.sl 1 (needT E), .sl 1 (okM E), .ls bn 1 0 E.n E.n]] 1) := by simp only [boardL, lk, if_true]
  have h2 : lk (boardL E now bb bn) bn = some (.row 3 1 (dnA E.n now) E.n) := by simp only [boardL, lk, if_neg hb, if_true]
  unfold aBoard
  exact .lp h1 rfl (Vws.cons (.mkAgg (Vws.cons (.refl _) (Vws.cons (.refl _) (Vws.cons (Vw.ofLs h2 (dnA_length _ _).symm) .nil)))) .nil).2
end Go.AL
end
section
namespace Go.AL
open Go Go.RowKit
set_option maxRecDepth 4000
theorem ref22_Sent (ps : List Pr) (hs : Sm ps) (hv : validF ps = true) (c : List Int) (hc : c.length = ps.length) (p : Nat) (hp : p < ps.length) (i : Nat) (hi : i < ps[p].evs.length) (hic : (i : Int) < cAt c p) :
    PC Go.Proofs.Tryz.prog 131 [aTr ps, aInts c, ai p, ai i] (ab (!badEv ps c (((p : Int), (i : Int) + 1), ps[p].evs[i]))) := by
  obtain ⟨hl1, hl8⟩ := valid_len hv
  have hl := hs.procs
  have hel := hs.evs _ (List.getElem_mem hp)
  have hgp := getD_map (f := aPr) hp
  have hge := getD_map (f := aEv) hi
  have hbad : badEv ps c (((p : Int), (i : Int) + 1), ps[p].evs[i]) = (decide (ps[p].evs[i].kind = 3) && decide (cAt c (findIn (evIds ps) 2 ps[p].evs[i].msg).1 < (findIn (evIds ps) 2 ps[p].evs[i].msg).2)) := by
    simp only [badEv, decide_eq_true (show (i : Int) + 1 ≤ cAt c p by omega), Bool.and_true]
  rw [hbad]
  have hfd := ref12_Find ps hs 2 ps[p].evs[i].msg
  obtain ⟨f1, f2⟩ := findIn_proc hl1 2 ps[p].evs[i].msg
  have hgs := getD_cAt (c := c) f1 (by omega)
  generalize findIn (evIds ps) 2 ps[p].evs[i].msg = s at *
  refine PC.enter 35 [.tmp 8] [4, 9, 10] Go.Proofs.Tryz.func131 rfl rfl rfl rfl rfl (by simp) (AWp.of ?_); simp only [go_sem]
  repeat (first | ((with_reducible refine AWp.ofC ?_ ?_); (focus exact rfl); simp only [go_sem, hgp, hge]) | ((with_reducible refine an ?_ ?_); focus exact Au))
  intro b9
  repeat (first | ((with_reducible refine AWp.ofC ?_ ?_); (focus exact rfl); simp only [go_sem]) | ((with_reducible refine an ?_ ?_); focus exact Au))
  refine ⟨fun h3 => ?_, fun h3 => ?_⟩
  · repeat (first | ((with_reducible refine AWp.ofC ?_ ?_); (focus exact rfl); simp only [go_sem]) | ((with_reducible refine an ?_ ?_); focus exact Au))
    refine ret_eq ?_; simp only [go_sem]
    rw [decide_eq_false h3]; rfl
  · repeat (first | ((with_reducible refine AWp.ofC ?_ ?_); (focus exact rfl); simp only [go_sem]) | ((with_reducible refine an ?_ ?_); focus exact Au))
    repeat ((with_reducible refine an ?_ ?_); focus exact As)
    refine (hfd).val.use ?_; simp only [go_sem]
    repeat ((with_reducible refine an ?_ ?_); focus exact As)
    intro b10
    refine AWp.seq ?_
    refine AWp.drawn mixed 8 (by kernel_rfl) ?_; simp only [go_sem, hgs]
    repeat ((with_reducible refine an ?_ ?_); focus exact As)
    repeat (first | ((with_reducible refine AWp.ofC ?_ ?_); (focus exact rfl); simp only [go_sem]) | ((with_reducible refine an ?_ ?_); focus exact Au))
    refine ret_eq ?_; simp only [go_sem]
    rw [decide_eq_true h3, Bool.true_and, ← decide_not]
    congr 2
    simp only [decide_eq_decide]; omega
theorem ref22_Close0 (ps : List Pr) (hs : Sm ps) (hv : validF ps = true) (c : List Int) (hc : c.length = ps.length) (hr : inRangeF ps c = true)
    (hrec : ∀ x, missF ps c = some x → PC Go.Proofs.Tryz.prog 73 [aTr ps, aInts (c.set x.1.1.toNat x.1.2)] (aInts (closeF ps (c.set x.1.1.toNat x.1.2)))) :
    PC Go.Proofs.Tryz.prog 73 [aTr ps, aInts c] (aInts (closeF ps c)) := by
  obtain ⟨hl1, hl8⟩ := valid_len hv
  have hl := hs.procs
  refine PC.enter 53 [.tmp 4] [2, 8] Go.Proofs.Tryz.func73 rfl rfl rfl rfl rfl (by simp) (AWp.of ?_); simp only [go_sem]
  repeat (first | ((with_reducible refine AWp.ofC ?_ ?_); (focus exact rfl); simp only [go_sem]) | ((with_reducible refine an ?_ ?_); focus exact Au))
  intro b0
  refine ⟨⟨by omega, by omega⟩, fun b cap hcap => ?_⟩
  have hvw : Vws [(b, .row 3 1 (c.map ai) cap)] [aTr ps, .ls b 1 0 c.length cap] [aTr ps, aInts c] := Vws.cons (.refl _) (Vws.cons (Vw.ofLs (if_pos rfl) (by rw [List.length_map])) .nil)
  repeat ((with_reducible refine an ?_ ?_); focus exact As)
  refine AWp.of ?_; simp only [go_sem]
  refine AWp.block (AWp.count 6 c.length [] [2, 5] (fun p vs L => L = [(b, .row 3 1 (c.map ai) cap)] ∧ ∀ (j : Nat) (y : Eid × Ev), j < off ps p → (evIds ps)[j]? = some y → badEv ps c y = false) rfl rfl ⟨rfl, by simp [off]⟩ ?_)
  rintro p vs L hp - ⟨rfl, hI⟩
  simp only [go_sem]
  repeat (first | ((with_reducible refine AWp.ofC ?_ ?_); (focus exact rfl); simp only [go_sem]) | ((with_reducible refine an ?_ ?_); focus exact Au))
  refine ⟨fun h1 => ?_, fun h1 => ?_⟩
  · have hpc : p < c.length := by omega
    have hpp : p < ps.length := by omega
    have hgP := getD_map (f := aPr) hpp
    have hgc := getD_map (f := ai) hpc
    have hel := hs.evs _ (List.getElem_mem hpp)
    obtain ⟨hr1, hr2⟩ := inRangeF_get hr hc hpp
    repeat (first | ((with_reducible refine AWp.ofC ?_ ?_); (focus exact rfl); simp only [go_sem]) | ((with_reducible refine an ?_ ?_); focus exact Au))
    refine AWp.block (AWp.count 7 c[p].toNat [] [2, 5, 6] (fun i vs L => L = [(b, .row 3 1 (c.map ai) cap)] ∧ ∀ (j : Nat) (y : Eid × Ev), j < off ps p + i → (evIds ps)[j]? = some y → badEv ps c y = false) rfl rfl ⟨rfl, hI⟩ ?_)
    rintro i vs L hi - ⟨rfl, hJ⟩
    simp only [go_sem]
    repeat (first | ((with_reducible refine AWp.ofC ?_ ?_); (focus exact rfl); simp only [go_sem, hgc]) | ((with_reducible refine an ?_ ?_); focus exact Au))
    refine ⟨fun h2 => ?_, fun h2 => ?_⟩
    · have hie : i < ps[p].evs.length := by omega
      have hge := getD_map (f := aEv) hie
      have hev := evIds_get hpp hie
      have hsn := ref22_Sent ps hs hv c hc p hpp i hie (by rw [cAt_nat hpc]; omega)
      repeat (first | ((with_reducible refine AWp.ofC ?_ ?_); (focus exact rfl); simp only [go_sem]) | ((with_reducible refine an ?_ ?_); focus exact Au))
      have hvw2 : Vws [(b, .row 3 1 (c.map ai) cap)] [aTr ps, .ls b 1 0 c.length cap, ai p, ai i] [aTr ps, aInts c, ai p, ai i] := Vws.cons (.refl _) (Vws.cons (Vw.ofLs (if_pos rfl) (by rw [List.length_map])) (Vws.refl _))
      refine (PC.view hvw2 hsn (Own.v _) ?_).val
      simp only [go_sem]
      cases hb : badEv ps c (((p : Int), (i : Int) + 1), ps[p].evs[i]) with
      | false =>
        repeat (first | ((with_reducible refine AWp.ofC ?_ ?_); (focus exact rfl); simp only [go_sem]) | ((with_reducible refine an ?_ ?_); focus exact Au))
        refine ⟨_, List.Sublist.refl _, rfl, fun j y hj hy => ?_⟩
        by_cases e : j = off ps p + i
        · subst e; rw [hev] at hy; cases hy; exact hb
        · exact hJ j y (by omega) hy
      | true =>
        have hm := missF_hit hev hJ hb
        have hrec := hrec _ hm
        have hst := closeF_step hv hc hr hm
        have hfd := ref12_Find ps hs 2 ps[p].evs[i].msg
        obtain ⟨f1, f2⟩ := findIn_proc hl1 2 ps[p].evs[i].msg
        dsimp only at hrec hst
        rw [← hst] at hrec
        generalize findIn (evIds ps) 2 ps[p].evs[i].msg = s at *
        have hgs := getD_cAt (c := c) f1 (by omega)
        repeat (first | ((with_reducible refine AWp.ofC ?_ ?_); (focus exact rfl); simp only [go_sem]) | ((with_reducible refine an ?_ ?_); focus exact Au))
        refine AWp.seq ?_
        refine AWp.mix mixed [0, 1, 2, 3, 4, 5, 6, 7, 8, 9, 10, 11] (.step 12 (.step 13 .done .done) .done) (by kernel_rfl) ?_; simp only [go_sem, hgP, hge]
        repeat ((with_reducible refine an ?_ ?_); focus exact As)
        repeat ((with_reducible refine an ?_ ?_); focus exact As)
        refine GCall.use (aEid s) (fun _ => ⟨At, (hfd).val.use ⟨rfl, rfl⟩⟩) ?_; simp only [go_sem]
        repeat ((with_reducible refine an ?_ ?_); focus exact As)
        intro b8 g8
        have n1 : ¬ b8 = b := by omega
        have n2 : ¬ b = b8 := by omega
        repeat (first | ((with_reducible refine AWp.ofC ?_ ?_); (focus exact rfl); simp only [go_sem, hgs]) | ((with_reducible refine an ?_ ?_); focus exact Au))
        rw [← List.map_set]
        have hvw3 : Vws [(b, .row 3 1 ((c.set s.1.toNat s.2).map ai) cap)] [aTr ps, .ls b 1 0 c.length cap] [aTr ps, aInts (c.set s.1.toNat s.2)] := Vws.cons (.refl _) (Vws.cons (Vw.ofLs (if_pos rfl) (by rw [List.length_map, List.length_set])) .nil)
        refine MVal.pass (Lf := [(b, .row 3 1 ((c.set s.1.toNat s.2).map ai) cap)]) (Li := []) (Lr := []) (.refl _) hvw3 hrec.val ?_
        rintro r L1 ⟨rfl, rfl⟩
        refine ⟨[], .refl _, ?_⟩
        simp only [go_sem]
        repeat (first | ((with_reducible refine AWp.ofC ?_ ?_); (focus exact rfl); simp only [go_sem]) | ((with_reducible refine an ?_ ?_); focus exact Au))
        refine ret_eq ?_; simp only [go_sem]
    · repeat (first | ((with_reducible refine AWp.ofC ?_ ?_); (focus exact rfl); simp only [go_sem]) | ((with_reducible refine an ?_ ?_); focus exact Au))
      refine ⟨_, List.Sublist.refl _, rfl, fun j y hj hy => ?_⟩
      rw [off_succ hpp] at hj
      by_cases e : j < off ps p + i
      · exact hJ j y e hy
      · obtain ⟨i', hi'⟩ : ∃ i', j = off ps p + i' := ⟨j - off ps p, by omega⟩
        subst hi'
        have hie : i' < ps[p].evs.length := by omega
        rw [evIds_get hpp hie] at hy; cases hy
        simp only [badEv, cAt_nat hpc, decide_eq_false (show ¬ (i' : Int) + 1 ≤ c[p] by omega), Bool.and_false, Bool.false_and]
  · repeat (first | ((with_reducible refine AWp.ofC ?_ ?_); (focus exact rfl); simp only [go_sem]) | ((with_reducible refine an ?_ ?_); focus exact Au))
    refine ret_view [true] ?_; simp only [go_sem]
    have hm := missF_none (ps := ps) (c := c) (fun j y hy => hI j y (by
      have : p = ps.length := by omega
      rw [this, ← evIds_length]; exact (List.getElem?_eq_some_iff.1 hy).1) hy)
    rw [closeF_none hm]
    exact Vw.ofLs (if_pos rfl) (by rw [List.length_map])
theorem ref22_Close (ps : List Pr) (hs : Sm ps) (hv : validF ps = true) (c : List Int) (hc : c.length = ps.length) (hr : inRangeF ps c = true) :
    PC Go.Proofs.Tryz.prog 73 [aTr ps, aInts c] (aInts (closeF ps c)) :=
  miss_ind hv (M := fun c => PC Go.Proofs.Tryz.prog 73 [aTr ps, aInts c] (aInts (closeF ps c))) (fun c hc hr h => ref22_Close0 ps hs hv c hc hr fun x hx => by rw [h] at hx; cases hx)
    (fun c hc hr x h hm => ref22_Close0 ps hs hv c hc hr fun y hy => by rw [h] at hy; cases hy; exact hm) c hc hr
theorem ref37_Need (ps : List Pr) (hs : Sm ps) (hv : validF ps = true) (p : Nat) (hp : p < ps.length) (k : Nat) (hk : k ≤ ps[p].evs.length) (q : Nat) (hq : q < ps.length) :
    PC Go.Proofs.Tryz.prog 146 [aTr ps, ai p, ai k, ai q] (ai (cAt (closeF ps (stC ps.length p k)) q)) := by
  obtain ⟨a1, a2⟩ := stC_ok (k := (k : Int)) hp (by omega) (by omega)
  have h := ref22_Close ps hs hv _ a1 a2
  obtain ⟨b1, _, _⟩ := closeF_ok hv a1 a2
  have hl := hs.procs
  have hC : (stC ps.length p k).map ai = (List.replicate ps.length (ai 0)).set p (ai k) := by unfold stC; rw [List.map_set, List.map_replicate]
  have hg0 : (List.replicate ps.length (ai 0)).getD p .any = ai 0 := by rw [List.getD_eq_getElem?_getD, List.getElem?_replicate, if_pos hp]; rfl
  generalize closeF ps (stC ps.length p k) = R at *
  have hgR : (R.map ai).getD q .any = ai (cAt R q) := by rw [getD_map (by omega), cAt_nat (by omega)]
  refine PC.enter 24 [.tmp 8] [4] Go.Proofs.Tryz.func146 rfl rfl rfl rfl rfl (by simp) (AWp.of ?_); simp only [go_sem]
  repeat (first | ((with_reducible refine AWp.ofC ?_ ?_); (focus exact rfl); simp only [go_sem]) | ((with_reducible refine an ?_ ?_); focus exact Au))
  repeat ((with_reducible refine an ?_ ?_); focus exact As)
  intro b9
  repeat ((with_reducible refine an ?_ ?_); focus exact As)
  refine AWp.of ?_; simp only [go_sem, hg0, List.length_replicate]
  repeat ((with_reducible refine an ?_ ?_); focus exact As)
  rw [← hC]
  refine AWp.view [true] [(9, aInts (stC ps.length p k))] (LVw.refl _) (fun x hx => ?_) ?_
  · simp only [List.mem_singleton] at hx
    subst hx
    simp only [go_sem, pickT]
    exact Vw.ofLs (t := 3) (cap := ps.length) (by simp only [lk, if_true]) (by rw [List.length_map, a1])
  · simp only [go_sem, pickF]
    repeat (first | ((with_reducible refine AWp.ofC ?_ ?_); (focus exact rfl); simp only [go_sem]) | ((with_reducible refine an ?_ ?_); focus exact Au))
    repeat ((with_reducible refine an ?_ ?_); focus exact As)
    refine (h).val.use ?_; simp only [go_sem, hgR]
    repeat (first | ((with_reducible refine AWp.ofC ?_ ?_); (focus exact rfl); simp only [go_sem]) | ((with_reducible refine an ?_ ?_); focus exact Au))
    refine ret_eq ?_; simp only [go_sem]
end Go.AL
end
section
namespace Go.AL
open Go Go.RowKit
set_option maxRecDepth 4000
theorem conF_inv {ps : List Pr} {ts : List Pd} (h : conF ps ts = 0) : validF ps = true ∧ ts.length = ps.length ∧ ∀ q (hq : q < ts.length), lclF ps q 0 ts[q] = 0 := by
  by_cases h1 : validF ps = true ∧ ts.length = ps.length
  · refine ⟨h1.1, h1.2, fun q hq => ?_⟩
    have e : ∀ q (hq : q < ts.length), lclAt (fun p t => lclF ps p 0 t) ts q = lclF ps q 0 ts[q] := fun q hq => by unfold lclAt; rw [List.getElem?_eq_getElem hq]
    unfold conF at h
    rw [if_pos h1] at h
    cases hf : (List.range ts.length).find? (fun p => decide (lclAt (fun p t => lclF ps p 0 t) ts p ≠ 0)) with
    | some p =>
      rw [hf] at h
      have := (find_range hf).2.1
      have h : lclAt (fun p t => lclF ps p 0 t) ts p = 0 := h
      rw [h] at this; simp at this
    | none =>
      have := find_range_none hf q hq
      rw [e q hq] at this
      simpa using this
  · rw [conF_bad h1] at h; cases h
end Go.AL
end
section
namespace Go.AL
open Go Go.RowKit
set_option maxRecDepth 4000
theorem dnA_I (n : Nat) (f : Nat → Nat) : .sl 1 (dnA n f) = aInts (cutL n f) := by unfold aInts cutL dnA; rw [List.map_map]; rfl
theorem cutL_len (n : Nat) (f : Nat → Nat) : (cutL n f).length = n := by simp [cutL]
end Go.AL
end
section
namespace Go.AL
open Go Go.RowKit
set_option maxRecDepth 4000
theorem miss_prev {ps : List Pr} (hv : validF ps = true) {c : List Int} (hc : c.length = ps.length) (hr : inRangeF ps c = true) {x : Eid × Eid} (h : missF ps c = some x) :
    (c.set x.2.1.toNat (x.2.2 - 1)).length = ps.length ∧ inRangeF ps (c.set x.2.1.toNat (x.2.2 - 1)) = true ∧ totC (c.set x.2.1.toNat (x.2.2 - 1)) < totC c := by
  obtain ⟨p, hp, i, hi, q, hq, j, hj, _, h2, _, rfl, h1⟩ := miss_inv hv hc h
  have e : ((i : Int) + 1 - 1) = i := by omega
  have hl : (c.set p (i : Int)).length = ps.length := by rw [List.length_set]; exact hc
  simp only [Int.toNat_natCast, e]
  refine ⟨hl, ?_, ?_⟩
  · rw [inRange_iff hl]
    intro r hr'
    rw [cAt_nat (show r < (c.set p (i : Int)).length by omega), List.getElem_set]
    split
    · rename_i e; subst e; omega
    · have := (inRange_iff hc).1 hr r hr'
      rw [cAt_nat (show r < c.length by omega)] at this
      exact this
  · have := totC_set (c := c) (q := p) (x := (i : Int)) (by omega)
    rw [cAt_nat (show p < c.length by omega)] at h2
    simp only [Int.toNat_natCast] at this
    omega
theorem openN_of {ps : List Pr} (hv : validF ps = true) : ∀ (n m : Nat) (c : List Int), c.length = ps.length → inRangeF ps c = true → totC c ≤ n → totC c ≤ m → openN ps n c = openN ps m c
  | 0, m, c, hc, hr, hn, hm => by
    have h : missF ps c = none := by
      cases h : missF ps c with
      | none => rfl
      | some x => have := (miss_prev hv hc hr h).2.2; omega
    cases m with
    | zero => rfl
    | succ m => rw [openN, openN, h]
  | n + 1, 0, c, hc, hr, hn, hm => by
    have h : missF ps c = none := by
      cases h : missF ps c with
      | none => rfl
      | some x => have := (miss_prev hv hc hr h).2.2; omega
    rw [openN, openN, h]
  | n + 1, m + 1, c, hc, hr, hn, hm => by
    rw [openN, openN]
    cases h : missF ps c with
    | none => rfl
    | some x =>
      obtain ⟨a1, a2, a3⟩ := miss_prev hv hc hr h
      exact openN_of hv n m _ a1 a2 (by omega) (by omega)
theorem openF_none {ps : List Pr} {c : List Int} (h : missF ps c = none) : openF ps c = c := by
  unfold openF
  cases totC c with
  | zero => rfl
  | succ n => rw [openN, h]
theorem openF_step {ps : List Pr} (hv : validF ps = true) {c : List Int} (hc : c.length = ps.length) (hr : inRangeF ps c = true) {x : Eid × Eid} (h : missF ps c = some x) : openF ps c = openF ps (c.set x.2.1.toNat (x.2.2 - 1)) := by
  obtain ⟨a1, a2, a3⟩ := miss_prev hv hc hr h
  unfold openF
  obtain ⟨m, hm⟩ : ∃ m, totC c = m + 1 := ⟨totC c - 1, by omega⟩
  rw [hm]
  conv => lhs; rw [openN]
  rw [h]
  exact openN_of hv _ _ _ a1 a2 (by omega) (by omega)
theorem miss_dni {ps : List Pr} (hv : validF ps = true) {M : List Int → Prop} (h0 : ∀ c, c.length = ps.length → inRangeF ps c = true → missF ps c = none → M c)
    (h1 : ∀ c, c.length = ps.length → inRangeF ps c = true → ∀ x, missF ps c = some x → M (c.set x.2.1.toNat (x.2.2 - 1)) → M c) : ∀ c, c.length = ps.length → inRangeF ps c = true → M c := by
  suffices H : ∀ n c, c.length = ps.length → inRangeF ps c = true → totC c = n → M c from fun c hc hr => H _ c hc hr rfl
  intro n
  induction n using Nat.strongRecOn with
  | _ n ih =>
    intro c hc hr hn
    cases h : missF ps c with
    | none => exact h0 c hc hr h
    | some x =>
      obtain ⟨a1, a2, a3⟩ := miss_prev hv hc hr h
      exact h1 c hc hr x h (ih _ (by omega) _ a1 a2 rfl)
theorem openF_ok {ps : List Pr} (hv : validF ps = true) {c : List Int} (hc : c.length = ps.length) (hr : inRangeF ps c = true) : (openF ps c).length = ps.length ∧ inRangeF ps (openF ps c) = true ∧ missF ps (openF ps c) = none := by
  refine miss_dni hv (M := fun c => (openF ps c).length = ps.length ∧ inRangeF ps (openF ps c) = true ∧ missF ps (openF ps c) = none) (fun c hc hr h => ?_) (fun c hc hr x h hm => ?_) c hc hr
  · rw [openF_none h]; exact ⟨hc, hr, h⟩
  · rw [openF_step hv hc hr h]; exact hm
theorem openF_le {ps : List Pr} (hv : validF ps = true) {c : List Int} (hc : c.length = ps.length) (hr : inRangeF ps c = true) : ∀ p, p < ps.length → cAt (openF ps c) p ≤ cAt c p := by
  refine miss_dni hv (M := fun c => ∀ p, p < ps.length → cAt (openF ps c) p ≤ cAt c p) (fun c hc hr h p hp => ?_) (fun c hc hr x h hm p hp => ?_) c hc hr
  · rw [openF_none h]; exact Int.le_refl _
  · rw [openF_step hv hc hr h]
    refine Int.le_trans (hm p hp) ?_
    obtain ⟨q, hq, i, hi, _, _, _, _, _, h2, _, rfl, _⟩ := miss_inv hv hc h
    have e : ((i : Int) + 1 - 1) = i := by omega
    simp only [Int.toNat_natCast, e]
    rw [cAt_nat (show p < (c.set q (i : Int)).length by rw [List.length_set]; omega), List.getElem_set]
    split
    · rename_i e; subst e; omega
    · rw [cAt_nat (show p < c.length by omega)]; exact Int.le_refl _
/-- It is the greatest closed one below the counts. -/
theorem openF_great {ps : List Pr} (hv : validF ps = true) {d : List Int} (_hd : d.length = ps.length) (hcl : closedF ps d = true) {c : List Int} (hc : c.length = ps.length) (hr : inRangeF ps c = true) :
    (∀ p, p < ps.length → cAt d p ≤ cAt c p) → ∀ p, p < ps.length → cAt d p ≤ cAt (openF ps c) p := by
  refine miss_dni hv (M := fun c => (∀ p, p < ps.length → cAt d p ≤ cAt c p) → ∀ p, p < ps.length → cAt d p ≤ cAt (openF ps c) p) (fun c hc hr h hle => ?_) (fun c hc hr x h hm hle => ?_) c hc hr
  · rw [openF_none h]; exact hle
  · rw [openF_step hv hc hr h]
    refine hm fun p hp => ?_
    obtain ⟨a, ha, i, hi, q, hq, j, hj, g1, g2, g3, rfl, h1⟩ := miss_inv hv hc h
    have e : ((i : Int) + 1 - 1) = i := by omega
    simp only [Int.toNat_natCast, e]
    rw [cAt_nat (show p < (c.set a (i : Int)).length by rw [List.length_set]; omega), List.getElem_set]
    split
    · rename_i e; subst e
      rcases Int.lt_or_le (i : Int) (cAt d a) with hlt | hge
      · have := closed_iff.1 hcl a ha i hi g1 (by omega)
        rw [g3] at this
        have h5 := hle q hq
        simp only at this
        omega
      · exact hge
    · have := hle p hp
      rw [cAt_nat (show p < c.length by omega)] at this
      exact this
theorem openF_closed {ps : List Pr} (hv : validF ps = true) {c : List Int} (hc : c.length = ps.length) (hr : inRangeF ps c = true) : closedF ps (openF ps c) = true := by
  rw [closedF_iff, (openF_ok hv hc hr).2.2]; rfl
end Go.AL
end
section
namespace Go.AL
open Go Go.RowKit
set_option maxRecDepth 4000
theorem elim_need (ps : List Pr) (ts : List Pd) : NeedOk ps (elimOf ps ts) := ⟨rfl, fun _ hp => nev_get hp, fun _ _ _ => rfl⟩
section
variable {ps : List Pr} {E : Elim}
theorem cut_ext {c d : List Int} (hl : c.length = d.length) (h : ∀ p, p < c.length → cAt c p = cAt d p) : c = d := by
  apply List.ext_getElem hl
  intro i h1 h2
  have := h i h1
  rwa [cAt_nat h1, cAt_nat h2] at this
end
end Go.AL
end
section
namespace Go.AL
open Go Go.RowKit
set_option maxRecDepth 4000
theorem MCalls.toPC {P : Program} {f : FuncId} {args : List AV} {K : AV → AHeap → Prop} {r' : AV} (h : MCalls P f args [] K) (hv : ∀ r L, K r L → Vw L r r') : PC P f args r' :=
  ⟨h.1, fun n w A vs hL hr => (h.2 n w A vs hL hr).mono fun e w' ⟨v, r, L', A', he, hK, hf, hA, hL', hk, hr'⟩ =>
    ⟨v, r', [], fun b => A' b ∨ keysOf L' b, he, ⟨rfl, rfl⟩, hf, fun b hb => hb.elim (hA b) (fun ⟨x, hx, e⟩ => by subst e; exact (hk x hx).elim (fun ⟨y, hy, _⟩ => by cases hy) (fun h => .inr (.inr h))), hL'.viewed (Lf := L') (Lk := []) (by simp) .nil, (by intro x hx; cases hx), hL'.view (Lf := L') (Lk := []) (by simp) (hv r L' hK) hr'⟩⟩
theorem conj_Possibly (ps : List Pr) (hs : Sm ps) (ts : List Pd) (hz : ∀ t ∈ ts, szF t ≤ 1000000) (htl : ts.length ≤ 1000000) : PC Go.Proofs.Tryz.prog 30 [aTr ps, .sl 6 (ts.map aPd)] (aPossR ps ts) := by
  refine (conj_PossiblyK ps hs ts hz htl (fun r L => Vw L r (aPossR ps ts)) (fun h hl v Lq hA => ?_) (fun h hl b => ?_) (fun h => ?_)).toPC fun _ _ h => h
  · unfold aPossR ansOf
    rw [if_pos h, hl, if_pos rfl]
    refine .mkTup (Vws.cons (.mkAgg ?_) (Vws.refl _))
    refine Vws.cons (.refl _) (Vws.cons (.refl _) (Vws.cons (.refl _) (Vws.cons (.nil 1) (Vws.cons (.nil 1) (Vws.cons (.nil 1) (Vws.cons ?_ (Vws.refl _)))))))
    rw [← aStp_I]
    have := hA.vw []
    rwa [List.append_nil] at this
  · unfold aPossR ansOf
    rw [if_pos h, hl, if_neg (by decide)]
    refine .mkTup (Vws.cons (.mkAgg ?_) (Vws.refl _))
    refine Vws.cons (.refl _) (Vws.cons (.refl _) (Vws.cons (.refl _) (Vws.cons ?_ (Vws.cons (.nil 1) (Vws.cons (.nil 1) (Vws.cons (.nil 3) (Vws.refl _)))))))
    rw [← dnA_I]
    exact Vw.ofLs (if_pos rfl) (dnA_length _ _).symm
  · unfold aPossR
    rw [if_neg h]
    refine .mkTup (Vws.cons (.mkAgg ?_) (Vws.refl _))
    exact Vws.cons (.refl _) (Vws.cons (.refl _) (Vws.cons (.refl _) (Vws.cons (.nil 1) (Vws.cons (.nil 1) (Vws.cons (.nil 1) (Vws.cons (.nil 3) (Vws.refl _)))))))
end Go.AL
end
section
namespace Go.AL
open Go Go.RowKit
set_option maxRecDepth 4000
theorem off_small {ps : List Pr} (hs : Sm ps) : ∀ k, k ≤ ps.length → off ps k ≤ k * 1000000 := by
  intro k
  induction k with
  | zero => intro _; simp [off]
  | succ k ih =>
    intro hk
    rw [off_succ (by omega)]
    have h1 := ih (by omega)
    have h2 := hs.evs _ (List.getElem_mem (show k < ps.length by omega))
    omega
end Go.AL
end
section
namespace Go.AL
open Go Go.RowKit
set_option maxRecDepth 4000
theorem law37_size (ps : List Pr) (hs : Sm ps) : PC Go.Proofs.Tryz.prog 18 [aTr ps] (ai (off ps ps.length)) := by
  have hl := hs.procs
  have hof := off_small hs
  refine PC.enter 20 [.tmp 2] [1, 5] Go.Proofs.Tryz.func18 rfl rfl rfl rfl rfl (by simp) (AWp.of ?_); simp only [go_sem]
  repeat (first | ((with_reducible refine AWp.ofC ?_ ?_); (focus exact rfl); simp only [go_sem]) | ((with_reducible refine an ?_ ?_); focus exact Au))
  refine AWp.range' ps.length [3] [7, 8] (fun k vs L => L = [] ∧ vs = [ai (off ps k)]) (by omega) rfl rfl rfl ⟨rfl, by simp [off]; rfl⟩ ?_ ?_
  · rintro k vs L' hk - ⟨rfl, rfl⟩
    have h1 := hof k (by omega)
    have h2 := hs.evs _ (List.getElem_mem hk)
    simp only [go_sem]
    repeat ((with_reducible refine an ?_ ?_); focus exact As)
    refine AWp.of ?_; simp only [go_sem, getD_map hk]
    repeat ((with_reducible refine an ?_ ?_); focus exact As)
    intros
    refine AWp.of ?_; simp only [go_sem]
    repeat ((with_reducible refine an ?_ ?_); focus exact As)
    exact ⟨_, List.Sublist.refl _, rfl, by rw [off_succ hk]; simp⟩
  · rintro vs L' - ⟨rfl, rfl⟩
    simp only [go_sem]
    repeat (first | ((with_reducible refine AWp.ofC ?_ ?_); (focus exact rfl); simp only [go_sem]) | ((with_reducible refine an ?_ ?_); focus exact Au))
    refine ret_eq ?_; simp only [go_sem]
end Go.AL
end
section
namespace Go.AL
open Go Go.RowKit Go.ChangeShapes Go.WideShapes Go.ChangeAt
section
variable {H : Type} {enc : TypeId × Value → H} {P : Program} {W : World} {t : TypeId}
theorem okWide_cells {r : Go.Reach} {b : Nat} {e : TypeId} {v : Value} (ht : P.underlying t = some (.slice e)) (h : Value.okWide P W r b t v) : v.cells = #[v] := by
  cases v with
  | agg cs =>
    exfalso
    simp only [Value.okWide, ht, Cell.okWide, Cell.ok] at h
  | _ => rfl
end
end Go.AL
end
section
namespace Go.AL
open Go Go.RowKit
set_option maxRecDepth 100000
section
variable {H : Type} {enc : TypeId × Value → H} {W : World}
theorem rdPreds : Rd enc Go.Proofs.Tryz.prog W 25 1 (fun l : List Pd => .sl 6 (l.map aPd)) (fun l => l.length ≤ maxLen) :=
  (Rd.slice Go.Proofs.Tryz.underlying25 (by kernel_rfl : Program.cellsOf Go.Proofs.Tryz.prog 27 = 6) (by decide) (RdF.all rdPredN)).map id (fun _ => rfl) (fun _ h => h.1)
end
end Go.AL
end
section
/- The layer AL: a drawn statement that only reads: whatever is owned stays as it is, so that each operation may come at any time. No condition. -/
namespace Go.AL
open Go Go.RowKit

/-- Operation i yields x in this memory, and leaves it. -/
def YldL (C : Cfg) (ops : Array Oper) (i : Nat) (o : Oper) (x : AV) (ρ : Env) (L : AHeap) : Prop :=
  ∀ ρ', (∀ t ∈ o.looksAt ops, get ρ' t = get ρ t) → GOp C ops i ρ' L fun ρ2 L2 => ρ2 = put ρ' o.dst x ∧ L2 = L
def aqL (C : Cfg) (all : List Oper) (o : Oper) (ρ : Env) (L : AHeap) (K : Env → Prop) : Prop :=
  match o.guard with
  | none => match aval C.P ρ L o.op with
    | some (c, x) => c ∧ K (put ρ o.dst x)
    | none => match o.op with
      | .call c => match c.callee with
        | .value g => GCall C.P True ((fo (ev ρ g)).1 ∧ fos (c.args.toList.map (ev ρ))) (fo (ev ρ g)).2 (c.args.toList.map fun x => (fo (ev ρ x)).2) L (putQ K ρ o.dst)
        | _ => False
      | _ => False
  | some (j, want) => match gval all ρ j want with
    | some b => match aval C.P ρ L o.op with
      | some (c, x) => (b = want → c) ∧ K (put ρ o.dst (.cond (b == want) x))
      | none => match o.op with
        | .call c => match c.callee with
          | .value g => GCall C.P (b = want) ((fo (ev ρ g)).1 ∧ fos (c.args.toList.map (ev ρ))) (fo (ev ρ g)).2 (c.args.toList.map fun x => (fo (ev ρ x)).2) L (putQC K ρ o.dst (b == want))
          | _ => b ≠ want ∧ K (put ρ o.dst (.cond (b == want) .any))
        | _ => b ≠ want ∧ K (put ρ o.dst (.cond (b == want) .any))
    | none => False
def aqLRun (C : Cfg) (all : List Oper) (L : AHeap) : List Nat → (Env → Prop) → Env → Prop
  | [], K, ρ => K ρ
  | i :: r, K, ρ => match all[i]? with
    | some o => aqL C all o ρ L (aqLRun C all L r K)
    | none => False
section
variable {C : Cfg} {ops : Array Oper} {L : AHeap}
theorem aqL_yields {i : Nat} {o : Oper} {ρ : Env} {K : Env → Prop} (hi : ops[i]? = some o) (hok : operOk C.N o = true) (h : aqL C ops.toList o ρ L K) : ∃ x, YldL C ops i o x ρ L ∧ K (put ρ o.dst x) := by
  have hd := operOk_dst hok
  have hdef := operOk_def hok
  unfold aqL at h
  split at h
  · rename_i hg
    split at h
    · rename_i c x hv
      exact ⟨x, fun ρ' hag => AOp.gop hi hg (aval_sound (by rw [aval_congr (agree_ops hag)]; exact hv) h.1 hd hdef), h.2⟩
    · split at h
      · rename_i cl ho
        split at h
        · rename_i g h0
          obtain ⟨r, h1, h2⟩ := h
          refine ⟨r, fun ρ' hag => AOp.gop hi hg ?_, h2⟩
          have hag' := agree_ops hag
          rw [ho] at hag'
          obtain ⟨e1, e2, e3⟩ := call_congr h0 hag'
          exact call_sound ho h0 hd (by rw [e1, e2, e3]; exact ⟨(h1 trivial).1.1, (h1 trivial).1.2, (h1 trivial).2⟩)
        · exact h.elim
      · exact h.elim
  · rename_i j want hg
    split at h
    · rename_i b hv
      split at h
      · rename_i c x ha
        refine ⟨_, fun ρ' hag => GOp.of_cond hi hg (by rw [agree_guard hag hg]; exact hv) hd fun hb => aval_sound (by rw [aval_congr (agree_ops hag)]; exact ha) (h.1 hb) hd hdef, h.2⟩
      · split at h
        · rename_i cl ho
          split at h
          · rename_i g h0
            obtain ⟨r, h1, h2⟩ := h
            refine ⟨_, fun ρ' hag => GOp.of_cond hi hg (by rw [agree_guard hag hg]; exact hv) hd fun hb => ?_, h2⟩
            have hag' := agree_ops hag
            rw [ho] at hag'
            obtain ⟨e1, e2, e3⟩ := call_congr h0 hag'
            exact call_sound ho h0 hd (by rw [e1, e2, e3]; exact ⟨(h1 hb).1.1, (h1 hb).1.2, (h1 hb).2⟩)
          · refine ⟨_, fun ρ' hag => GOp.of_cond hi hg (by rw [agree_guard hag hg]; exact hv) hd fun hb => absurd hb h.1, h.2⟩
        · refine ⟨_, fun ρ' hag => GOp.of_cond hi hg (by rw [agree_guard hag hg]; exact hv) hd fun hb => absurd hb h.1, h.2⟩
    · exact h.elim
def QFactL (C : Cfg) (ops : Array Oper) (ρ : Env) (L : AHeap) (q : Nat) : Prop := ∃ o x, ops[q]? = some o ∧ YldL C ops q o x ρ L ∧ ∀ d, o.dst = some d → get ρ d = x
theorem YldL.of_agree {i : Nat} {o : Oper} {x : AV} {ρ ρ' : Env} (h : YldL C ops i o x ρ L) (he : ∀ t ∈ o.looksAt ops, get ρ' t = get ρ t) : YldL C ops i o x ρ' L :=
  fun ρ2 hag => h ρ2 fun t ht => (hag t ht).trans (he t ht)
theorem aqLRun_facts {qs0 : List Nat} (hm : mixOk ops qs0 = true) (hok : ops.toList.all (operOk C.N) = true) : ∀ (qs : List Nat) (ρ : Env) (K : Env → Prop), (∀ q ∈ qs, q ∈ qs0) → ascend qs = true → aqLRun C ops.toList L qs K ρ →
    ∃ ρq, K ρq ∧ (∀ q ∈ qs, QFactL C ops ρq L q) ∧ ∀ s, (∀ q ∈ qs, dstOf ops q ≠ some s) → get ρq s = get ρ s
  | [], ρ, K, _, _, h => ⟨ρ, h, fun q hq => (by cases hq), fun _ _ => rfl⟩
  | i :: r, ρ, K, hsub, hasc, h => by
    obtain ⟨hlt, hasc'⟩ := ascend_cons hasc
    simp only [aqLRun] at h
    cases ho : ops.toList[i]? with
    | none => rw [ho] at h; exact h.elim
    | some o =>
      rw [ho] at h
      have ho' : ops[i]? = some o := by simpa using ho
      obtain ⟨x, hy, hK⟩ := aqL_yields ho' (List.all_eq_true.1 hok o (List.mem_of_getElem? ho)) h
      obtain ⟨ρq, h1, h2, h3⟩ := aqLRun_facts hm hok r _ K (fun q hq => hsub q (List.mem_cons_of_mem _ hq)) hasc' hK
      obtain ⟨p1, p2, _⟩ := mix_at hm ho'
      have hself : ∀ d, o.dst = some d → d ∉ o.looksAt ops := fun d hd hm' => by
        have := (p2 i (hsub i List.mem_cons_self) d (by simp [dstOf, ho', hd])).1 hm'
        exact absurd (p1 i this) (Nat.lt_irrefl i)
      refine ⟨ρq, h1, fun q hq => ?_, fun s hs => ?_⟩
      · rcases List.mem_cons.1 hq with rfl | hq
        · refine ⟨o, x, ho', hy.of_agree fun t ht => ?_, fun d hd => ?_⟩
          · rw [h3 t fun q' hq' he => ?_, get_put, if_neg fun he => hself t he ht]
            have := (p2 q' (hsub q' (List.mem_cons_of_mem _ hq')) t he).1 ht
            have := p1 q' this; have := hlt q' hq'; omega
          · rw [h3 d fun q' hq' he => ?_, get_put, if_pos hd]
            exact (p2 q' (hsub q' (List.mem_cons_of_mem _ hq')) d he).2 (by have := hlt q' hq'; omega) hd
        · exact h2 q hq
      · rw [h3 s fun q hq => hs q (List.mem_cons_of_mem _ hq), get_put, if_neg]
        have := hs i List.mem_cons_self
        simpa [dstOf, ho'] using this
theorem read_sound {qs : List Nat} (hm : mixOk ops qs = true) (hall : ∀ i, i < ops.size → i ∈ qs) {K : ARes} {n : Nat} {w0 : World} {M A0 : Foot} {Q : Exit → Act → World → Prop} (hQ : ∀ a w, post w0 M A0 C.N K a w → Q .normal a w) {ρT : Env} (hK : K ρT L) :
    ∀ (f : Nat) (listed : Array Bool) (a : Act) (w : World), listed.size = ops.size →
      (∀ l : List Nat, l.Nodup → (∀ i ∈ l, listed.getD i true = false) → l.length ≤ f) →
      (∀ q ∈ qs, listed.getD q true = false → QFactL C ops ρT L q) → St w0 M A0 C.N (mask ops qs listed ρT) L a w →
      wpAnyIn (Fw C.r) n C.P .any ops Q f listed a w := by
  have fin : ∀ (listed : Array Bool) (a : Act) (w : World), listed.size = ops.size → St w0 M A0 C.N (mask ops qs listed ρT) L a w → Region.ready .any ops listed = [] → Q .normal a w := by
    intro listed a w hsz hs hr
    have all : ∀ i, listed.getD i true = true := by
      intro i
      induction i using Nat.strongRecOn with
      | _ i ih =>
        cases hi : listed.getD i true with
        | true => rfl
        | false =>
          exfalso
          have hlt : i < ops.size := by
            rw [← hsz]
            by_cases h : i < listed.size
            · exact h
            · simp [Array.getD, h] at hi
          have ho : ops[i]? = some ops[i] := Array.getElem?_eq_getElem hlt
          have : i ∈ Region.ready .any ops listed := mem_ready.2 ⟨hi, _, ho, fun e he hb => by
            have hp := (mix_at hm ho).1 e.on (List.mem_map.2 ⟨e, List.mem_filter.2 ⟨by simpa using he, hb⟩, rfl⟩)
            exact getD_ft (by omega) (ih _ hp)⟩
          rw [hr] at this; cases this
    refine hQ a w ⟨ρT, L, hK, st_forget hs fun i => .inr ?_⟩
    rw [mask_out fun q _ hl => by rw [all q] at hl; cases hl]
  intro f
  induction f with
  | zero =>
    intro listed a w hsz hcnt hfact hs
    have hr : Region.ready .any ops listed = [] := by
      cases hh : Region.ready .any ops listed with
      | nil => rfl
      | cons j r =>
        have hj : j ∈ Region.ready .any ops listed := by rw [hh]; exact List.mem_cons_self
        have := hcnt [j] (by simp) (fun i hi => by simp at hi; subst hi; exact (mem_ready.1 hj).1)
        simp at this
    exact ⟨hr, fin listed a w hsz hs hr⟩
  | succ f ih =>
    intro listed a w hsz hcnt hfact hs
    refine ⟨fin listed a w hsz hs, fun i hi => ?_⟩
    obtain ⟨hun, o, ho, hpre⟩ := mem_ready.1 hi
    have hlt : i < ops.size := (Array.getElem?_eq_some_iff.1 ho).1
    obtain ⟨m1, m2, m3⟩ := mix_at hm ho
    have hlooks : ∀ t ∈ o.looksAt ops, get (mask ops qs listed ρT) t = get ρT t := fun t ht => mask_out fun q hq hl hd => by
      have hp := (m2 q hq t hd).1 ht
      obtain ⟨e, he, rfl⟩ := List.mem_map.1 hp
      obtain ⟨he1, he2⟩ := List.mem_filter.1 he
      have := getD_tf (hpre e (by simpa using he1) he2)
      rw [hl] at this; cases this
    have hcnt' : ∀ l : List Nat, l.Nodup → (∀ j ∈ l, (listed.setIfInBounds i true).getD j true = false) → l.length ≤ f := fun l hn hl => by
      have hil : i ∉ l := fun h => by
        have := hl i h
        simp [Array.getD, show i < listed.size by omega] at this
      have := hcnt (i :: l) (List.nodup_cons.2 ⟨hil, hn⟩) (fun j hj => by
        rcases List.mem_cons.1 hj with rfl | hj
        · exact hun
        · have := hl j hj
          have hne : i ≠ j := fun e => hil (e ▸ hj)
          rwa [getD_set_ne true hne] at this)
      simp at this; omega
    have hset : ∀ j, j ≠ i → (listed.setIfInBounds i true).getD j true = listed.getD j true := fun j hj => getD_set_ne true (Ne.symm hj)
    have hq := hall i hlt
    obtain ⟨o', x, ho', hy, hgx⟩ := hfact i hq hun
    rw [ho] at ho'; cases ho'
    refine wpOpIn_mono ?_ (hy _ hlooks n w0 M A0 a w Q hs)
    rintro a' w' ⟨ρ2, L2, ⟨rfl, rfl⟩, hs2⟩
    refine ih _ a' w' (by simpa using hsz) hcnt' (fun q hq' hl => hfact q hq' (by
      by_cases e : q = i
      · subst e; exact hun
      · rwa [hset q e] at hl)) (st_forget hs2 fun s => ?_)
    rcases mask_or (ops := ops) qs (listed.setIfInBounds i true) ρT s with ⟨h1, _⟩ | ⟨h1, h2⟩
    · exact .inl h1
    · refine .inr ?_
      rw [h1, get_put]
      by_cases hd : o.dst = some s
      · rw [if_pos hd]; exact hgx s hd
      · rw [if_neg hd, mask_out fun q hq' hl hds => ?_]
        by_cases e : q = i
        · subst e; exact hd (by simpa [dstOf, ho] using hds)
        · exact h2 q hq' (by rw [hset q e]; exact hl) hds
end
def readAll (ops : Array Oper) (qs : List Nat) : Bool := mixOk ops qs && (List.range ops.size).all fun i => qs.contains i
def readK (K : ARes) (L : AHeap) (ρ : Env) : Prop := K ρ L
/-- A drawing statement that only reads. -/
theorem AWp.read {C : Cfg} {id : Nat} {ops : Array Oper} {Q : AQ} {ρ : Env} {L : AHeap} (hmx : C.P.follows .mixedOrders = true) (qs : List Nat) (hT : readAll ops qs = true) (h : aqLRun C ops.toList L qs (readK (Q .normal) L) ρ) :
    AWp C (.region id ops true) Q ρ L := fun hok n w0 M A0 a w hs => by
  simp only [readAll, Bool.and_eq_true, List.all_eq_true, List.contains_eq_mem, decide_eq_true_eq] at hT
  obtain ⟨hm, hal⟩ := hT
  have hasc := mix_asc hm
  obtain ⟨ρq, hK, hF, hother⟩ := aqLRun_facts hm hok qs ρ _ (fun _ h => h) hasc.1 h
  refine wpIn_region_any hmx ?_
  obtain ⟨A, ds, hs'⟩ := st_iff.1 hs
  refine read_sound hm (fun i hi => hal i (List.mem_range.2 hi)) (K := Q .normal) (fun a w ⟨ρ', L', h1, h2⟩ => ⟨ρ', L', h1, h2⟩) hK ops.size _ a _ (by simp) ?_ (fun q hq _ => hF q hq) (st_forget (st_iff.2 ⟨A, ds, hs'.drew⟩) fun s => ?_)
  · intro l hn hl
    have := List.Nodup.length_le_of_subset hn (l₂ := List.range ops.size) (fun i hi => by
      have := hl i hi
      rw [List.mem_range]
      by_cases h : i < ops.size
      · exact h
      · simp [Array.getD, h] at this)
    simpa using this
  · rcases mask_or (ops := ops) qs (Array.replicate ops.size false) ρq s with ⟨h1, _⟩ | ⟨h1, h2⟩
    · exact .inl h1
    · refine .inr ?_
      rw [h1]
      exact hother s fun q hq hd => h2 q hq (by simp [Array.getD, hasc.2 q hq]) hd
theorem aqLRun_nil (C : Cfg) (all : List Oper) (L : AHeap) (K : Env → Prop) (ρ : Env) : aqLRun C all L [] K ρ = K ρ := rfl
theorem aqLRun_cons (C : Cfg) (all : List Oper) (L : AHeap) (i : Nat) (r : List Nat) (K : Env → Prop) (ρ : Env) : aqLRun C all L (i :: r) K ρ = (match all[i]? with | some o => aqL C all o ρ L (aqLRun C all L r K) | none => False) := rfl
attribute [go_sem] aqLRun_nil aqLRun_cons aqL readK
end Go.AL
end
section
/- The reference of layer 37: faults, and which states are excluded. No condition. -/
namespace Go.AL
open Go Go.RowKit
set_option maxRecDepth 4000
theorem ref37_Fault (ps : List Pr) (hs : Sm ps) (ts : List Pd) (hz : ∀ t ∈ ts, szF t ≤ 1000000) (htl : ts.length ≤ 1000000) : PC Go.Proofs.Tryz.prog 26 [aTr ps, .sl 6 (ts.map aPd)] (ai (conF ps ts)) := by
  have h1 := ref12_Valid ps hs
  have hl := hs.procs
  by_cases hv : validF ps = true ∧ ts.length = ps.length
  · have hvl : (ts.length : Int) = ps.length := by omega
    rw [hv.1] at h1
    have hhit := fun p hp => conF_hit hv (p := p) hp
    have hzero := conF_zero hv
    generalize conF ps ts = C at *
    refine PC.enter 34 [.tmp 4] [2] Go.Proofs.Tryz.func26 rfl rfl rfl rfl rfl (by simp) (AWp.of ?_); simp only [go_sem]
    repeat (first | ((with_reducible refine AWp.ofC ?_ ?_); (focus exact rfl); simp only [go_sem]) | ((with_reducible refine an ?_ ?_); focus exact Au))
    repeat ((with_reducible refine an ?_ ?_); focus exact As)
    refine (h1).val.use ?_; simp only [go_sem, hvl]
    repeat (first | ((with_reducible refine AWp.ofC ?_ ?_); (focus exact rfl); simp only [go_sem]) | ((with_reducible refine an ?_ ?_); focus exact Au))
    refine AWp.block (AWp.count 5 ts.length [] [1, 2] (fun p vs L => L = [] ∧ ∀ q (hq : q < ts.length), q < p → lclF ps q 0 ts[q] = 0) rfl rfl ⟨rfl, fun q hq h => by omega⟩ ?_)
    rintro p vs L hp - ⟨rfl, hJ⟩
    simp only [go_sem]
    repeat (first | ((with_reducible refine AWp.ofC ?_ ?_); (focus exact rfl); simp only [go_sem]) | ((with_reducible refine an ?_ ?_); focus exact Au))
    refine ⟨fun h2 => ?_, fun h2 => ?_⟩
    · have hpt : p < ts.length := by omega
      have hgt := getD_map (f := aPd) hpt
      have hlf := ref29_LocalFault ps hs p 0 ts[p] (hz _ (List.getElem_mem hpt))
      have hh := hhit p hpt hJ
      generalize hE : lclF ps p 0 ts[p] = e at *
      generalize hT : ts[p] = t at *
      obtain ⟨k0, n, pp, q, s, l⟩ := t
      simp only [aPd_mk] at *
      refine AWp.seq (AWp.block (AWp.seq ?_))
      refine AWp.mix mixed [0, 1, 2, 3, 4, 5, 6, 7] .done (by kernel_rfl) ?_; simp only [go_sem, hgt]
      repeat ((with_reducible refine an ?_ ?_); focus exact As)
      repeat ((with_reducible refine an ?_ ?_); focus exact As)
      refine GCall.use (ai e) (fun _ => ⟨At, (hlf).val.use ⟨rfl, rfl⟩⟩) ?_; simp only [go_sem]
      repeat ((with_reducible refine an ?_ ?_); focus exact As)
      repeat (first | ((with_reducible refine AWp.ofC ?_ ?_); (focus exact rfl); simp only [go_sem]) | ((with_reducible refine an ?_ ?_); focus exact Au))
      refine ⟨fun h3 => ?_, fun h3 => ?_⟩
      · repeat (first | ((with_reducible refine AWp.ofC ?_ ?_); (focus exact rfl); simp only [go_sem]) | ((with_reducible refine an ?_ ?_); focus exact Au))
        refine ret_eq ?_; simp only [go_sem]
        rw [hh h3]
      · repeat (first | ((with_reducible refine AWp.ofC ?_ ?_); (focus exact rfl); simp only [go_sem]) | ((with_reducible refine an ?_ ?_); focus exact Au))
        refine ⟨_, List.Sublist.refl _, rfl, fun j hj hjp => ?_⟩
        by_cases ej : j = p
        · subst ej; rw [hT, hE, h3]
        · exact hJ j hj (by omega)
    · repeat (first | ((with_reducible refine AWp.ofC ?_ ?_); (focus exact rfl); simp only [go_sem]) | ((with_reducible refine an ?_ ?_); focus exact Au))
      refine ret_eq ?_; simp only [go_sem]
      rw [hzero fun q hq => hJ q hq (by omega)]
  · rw [conF_bad hv]
    by_cases hv1 : validF ps = true
    · have hvl : ¬ (ts.length : Int) = ps.length := fun e => hv ⟨hv1, by omega⟩
      rw [hv1] at h1
      refine PC.enter 34 [.tmp 4] [2] Go.Proofs.Tryz.func26 rfl rfl rfl rfl rfl (by simp) (AWp.of ?_); simp only [go_sem]
      repeat (first | ((with_reducible refine AWp.ofC ?_ ?_); (focus exact rfl); simp only [go_sem]) | ((with_reducible refine an ?_ ?_); focus exact Au))
      repeat ((with_reducible refine an ?_ ?_); focus exact As)
      refine (h1).val.use ?_; simp only [go_sem, hvl]
      repeat (first | ((with_reducible refine AWp.ofC ?_ ?_); (focus exact rfl); simp only [go_sem]) | ((with_reducible refine an ?_ ?_); focus exact Au))
      refine ret_eq ?_; simp only [go_sem]
    · rw [show validF ps = false by simpa using hv1] at h1
      refine PC.enter 34 [.tmp 4] [2] Go.Proofs.Tryz.func26 rfl rfl rfl rfl rfl (by simp) (AWp.of ?_); simp only [go_sem]
      repeat (first | ((with_reducible refine AWp.ofC ?_ ?_); (focus exact rfl); simp only [go_sem]) | ((with_reducible refine an ?_ ?_); focus exact Au))
      repeat ((with_reducible refine an ?_ ?_); focus exact As)
      refine (h1).val.use ?_; simp only [go_sem]
      repeat (first | ((with_reducible refine AWp.ofC ?_ ?_); (focus exact rfl); simp only [go_sem]) | ((with_reducible refine an ?_ ?_); focus exact Au))
      refine ret_eq ?_; simp only [go_sem]
theorem ref37_Excluded (ps : List Pr) (hs : Sm ps) (ts : List Pd) (hz : ∀ t ∈ ts, szF t ≤ 1000000) (htl : ts.length ≤ 1000000) (hf : conF ps ts = 0) (now : Nat → Nat) (hI : InE (elimOf ps ts) now) (p k : Nat) (hp : p < ps.length) (hk : k ≤ ps[p].evs.length) :
    PC Go.Proofs.Tryz.prog 84 [aTr ps, .sl 6 (ts.map aPd), .sl 1 (dnA ps.length now), ai p, ai k] (ab (exB (elimOf ps ts) now p k)) := by
  obtain ⟨hv, htn, hlc⟩ := conF_inv hf
  have hl := hs.procs
  have hel := hs.evs _ (List.getElem_mem hp)
  have hpt : p < ts.length := by omega
  obtain ⟨c1, _, _, _, c5, c6⟩ := lcl_ok (hlc p hpt)
  have hloc := ref29_Local ps hs p k hp hk ts[p] (hz _ (List.getElem_mem hpt)) c1 c5 c6
  have hok : (elimOf ps ts).ok p k = lclT ps p ts[p] k := by show (match ts[p]? with | some t => lclT ps p t k | none => true) = _; rw [List.getElem?_eq_getElem hpt]
  rw [← hok] at hloc
  have hnd := fun q (hq : q < ps.length) => ref37_Need ps hs hv q hq (now q) (by have := hI q hq; rw [show (elimOf ps ts).top q = nev ps q from rfl, nev_get hq] at this; exact this) p hp
  have hnow := fun q (hq : q < ps.length) => (show now q ≤ 1000000 by have := hI q hq; have := (elim_sm hs ts).top q; omega)
  have hne : ∀ q, cAt (closeF ps (stC ps.length q (now q))) p = (elimOf ps ts).need q (now q) p := fun q => rfl
  have hgt := getD_map (f := aPd) hpt
  have hEn : (elimOf ps ts).n = ps.length := rfl
  have hff := exB_false (E := elimOf ps ts) (now := now) (p := p) (k := k)
  have hex : exB (elimOf ps ts) now p k = (!(elimOf ps ts).ok p k || exB (elimOf ps ts) now p k) := by
    cases h : exB (elimOf ps ts) now p k with
    | true => rw [Bool.or_true]
    | false => rw [(exB_false.1 h).1]; rfl
  simp only [hne] at hnd
  clear hlc c1 c5 c6 hok hf hI hne
  generalize exB (elimOf ps ts) now p k = B at *
  generalize (elimOf ps ts).ok p k = okb at *
  generalize (elimOf ps ts).need = N at *
  rw [hEn] at hff
  generalize hT : ts[p] = t at *
  obtain ⟨k0, n, pp, q0, s, l⟩ := t
  simp only [aPd_mk] at *
  refine PC.enter 42 [.tmp 10] [5] Go.Proofs.Tryz.func84 rfl rfl rfl rfl rfl (by simp) (AWp.of ?_); simp only [go_sem]
  refine AWp.seq (AWp.seq ?_)
  refine AWp.mix mixed [0, 1, 2, 3, 4, 5, 6, 7, 8] .done (by kernel_rfl) ?_; simp only [go_sem, hgt]
  repeat ((with_reducible refine an ?_ ?_); focus exact As)
  repeat ((with_reducible refine an ?_ ?_); focus exact As)
  refine GCall.use (ab okb) (fun _ => ⟨At, (hloc).val.use ⟨rfl, rfl⟩⟩) ?_; simp only [go_sem]
  repeat ((with_reducible refine an ?_ ?_); focus exact As)
  repeat (first | ((with_reducible refine AWp.ofC ?_ ?_); (focus exact rfl); simp only [go_sem]) | ((with_reducible refine an ?_ ?_); focus exact Au))
  refine ⟨fun h1 => ?_, fun h1 => ?_⟩
  · repeat (first | ((with_reducible refine AWp.ofC ?_ ?_); (focus exact rfl); simp only [go_sem]) | ((with_reducible refine an ?_ ?_); focus exact Au))
    refine ret_eq ?_; simp only [go_sem]
    rw [hex, h1]; rfl
  · repeat (first | ((with_reducible refine AWp.ofC ?_ ?_); (focus exact rfl); simp only [go_sem]) | ((with_reducible refine an ?_ ?_); focus exact Au))
    refine AWp.block (AWp.count 11 ps.length [] [2, 3, 4, 5] (fun q vs L => L = [] ∧ ∀ j, j < q → j ≠ p → N j (now j) p ≤ k) rfl rfl ⟨rfl, fun j hj => by omega⟩ ?_)
    rintro q vs L hq - ⟨rfl, hJ⟩
    simp only [go_sem]
    repeat (first | ((with_reducible refine AWp.ofC ?_ ?_); (focus exact rfl); simp only [go_sem, dnA_length]) | ((with_reducible refine an ?_ ?_); focus exact Au))
    refine ⟨fun h2 => ?_, fun h2 => ?_⟩
    · have hqn : q < ps.length := by omega
      have hgn := dnA_get hqn now
      have hnd := hnd q hqn
      have hnq := hnow q hqn
      have hei : ((q : Int) = p) ↔ q = p := by omega
      refine AWp.seq (AWp.block (AWp.seq ?_))
      refine AWp.mix mixed [0, 1, 2, 3, 4, 5, 6, 7, 8, 9, 10, 11, 12, 13, 14] .done (by kernel_rfl) ?_; simp only [go_sem, hgn, dnA_length]
      repeat ((with_reducible refine an ?_ ?_); focus exact As)
      repeat ((with_reducible refine an ?_ ?_); focus exact As)
      refine GCall.use (ai (N q (now q) p)) (fun _ => ⟨At, (hnd).val.use ⟨rfl, rfl⟩⟩) ?_; simp only [go_sem]
      repeat ((with_reducible refine an ?_ ?_); focus exact As)
      repeat (first | ((with_reducible refine AWp.ofC ?_ ?_); (focus exact rfl); simp only [go_sem]) | ((with_reducible refine an ?_ ?_); focus exact Au))
      refine ⟨fun h3 h4 => ?_, fun h3 => ?_⟩
      · repeat (first | ((with_reducible refine AWp.ofC ?_ ?_); (focus exact rfl); simp only [go_sem]) | ((with_reducible refine an ?_ ?_); focus exact Au))
        refine ret_eq ?_; simp only [go_sem]
        cases B with
        | true => rfl
        | false => have := (hff.1 rfl).2 q hqn (by omega); omega
      · repeat (first | ((with_reducible refine AWp.ofC ?_ ?_); (focus exact rfl); simp only [go_sem]) | ((with_reducible refine an ?_ ?_); focus exact Au))
        refine ⟨_, List.Sublist.refl _, rfl, fun j hj hn => ?_⟩
        by_cases ej : j = q
        · subst ej
          have := h3 (by omega)
          omega
        · exact hJ j (by omega) hn
    · repeat (first | ((with_reducible refine AWp.ofC ?_ ?_); (focus exact rfl); simp only [go_sem]) | ((with_reducible refine an ?_ ?_); focus exact Au))
      refine ret_eq ?_; simp only [go_sem]
      rw [hff.2 ⟨by simpa using h1, fun j hj hn => hJ j (by omega) hn⟩]
end Go.AL
end
section
/- How many steps an elimination has. Plain law. No condition. -/
namespace Go.AL
open Go Go.RowKit
set_option maxRecDepth 4000
theorem run_room {E : Elim} (_hE : SmE E) {now fin : Nat → Nat} {st : List Stp} {l : Bool} (h : RunR E now st fin l) (hI : InE E now) : st.length ≤ roomE E now + 1 := by
  induction h with
  | stop h => simp
  | lost h hl => simp
  | go h hl hr ih =>
    have := ih (inE_step hI hl)
    have := (step_inv hI h).2.2.2.2.2.2
    rw [List.length_cons]; omega
end Go.AL
end
