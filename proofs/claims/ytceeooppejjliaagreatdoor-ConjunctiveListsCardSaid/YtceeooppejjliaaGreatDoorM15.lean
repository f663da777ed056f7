/- Texts of this claim's proof: WCut2+1, WDl+1, WTl+1, WEf+1, WEl+1, WCl+1, WSb+1, WSr+1, WWl+1, WSp+1, WSq+1, WBig+1, WHu+1, AlBr2+1, WRt+1, WRt2+1, WFa. No condition. -/
import Derived.Test.YtceeooppejjliaaGreatDoorM0
import Derived.Test.YtceeooppejjliaaGreatDoorM1
import Derived.Test.YtceeooppejjliaaGreatDoorM2
import Derived.Test.YtceeooppejjliaaGreatDoorM3
import Derived.Test.YtceeooppejjliaaGreatDoorM4
import Derived.Test.YtceeooppejjliaaGreatDoorM5
import Derived.Test.YtceeooppejjliaaGreatDoorM6
import Derived.Test.YtceeooppejjliaaGreatDoorM7
import Derived.Test.YtceeooppejjliaaGreatDoorM8
import Derived.Test.YtceeooppejjliaaGreatDoorM9
import Derived.Test.YtceeooppejjliaaGreatDoorM10
import Derived.Test.YtceeooppejjliaaGreatDoorM11
import Derived.Test.YtceeooppejjliaaGreatDoorM12
import Derived.Test.YtceeooppejjliaaGreatDoorM13
import Derived.Test.YtceeooppejjliaaGreatDoorM14
section
namespace Go.AL
open Go Go.RowKit
set_option maxRecDepth 4000
theorem closedF_iff (ps : List Pr) (c : List Int) : closedF ps c = (missF ps c).isNone := by
  unfold closedF missF
  cases h : (evIds ps).find? (badEv ps c) with
  | none =>
    rw [List.find?_eq_none] at h
    have : (evIds ps).any (badEv ps c) = false := by rw [List.any_eq_false]; exact h
    rw [this]; rfl
  | some x =>
    have : (evIds ps).any (badEv ps c) = true := List.any_eq_true.2 ⟨x, List.mem_of_find?_eq_some h, List.find?_some h⟩
    rw [this]; rfl
end Go.AL
end
section
namespace Go.AL
open Go Go.RowKit
set_option maxRecDepth 4000
theorem fstF_zero {f : Nat → Int} {n : Nat} (h : fstF f n = 0) : ∀ i, i < n → f i = 0 := by
  intro i
  induction i using Nat.strongRecOn with
  | _ i ih =>
    intro hi
    by_cases h0 : f i = 0
    · exact h0
    · rw [fstF_hit hi (fun j hj => ih j hj (by omega)) h0] at h; exact h
theorem evF_parts {ps : List Pr} {p : Nat} (hp : p < ps.length) {i : Nat} (hi : i < ps[p].evs.length) : evF ps p i = 0 ↔ formedI ps.length p ps[p].evs[i] = true ∧ (0 ≤ ps[p].evs[i].time ∧ ps[p].evs[i].time ≤ 1099511627776 ∧ lastT ps[p].evs i ≤ ps[p].evs[i].time) ∧
    ps[p].evs[i].asg.length ≤ 8 ∧ ∀ k, k < ps[p].evs[i].asg.length → asgF ps[p].vars.length ps[p].evs[i].asg k = 0 := by
  have e : evF ps p i = if !formedI ps.length p ps[p].evs[i] then 3 else if !inI ps[p].evs[i].time 0 1099511627776 || decide (ps[p].evs[i].time < lastT ps[p].evs i) then 11 else if 8 < ps[p].evs[i].asg.length then 5 else fstF (asgF ps[p].vars.length ps[p].evs[i].asg) ps[p].evs[i].asg.length := by
    unfold evF; simp only [List.getElem?_eq_getElem hp, List.getElem?_eq_getElem hi]
  rw [e]
  constructor
  · intro h
    split at h
    · cases h
    · rename_i h1
      split at h
      · cases h
      · rename_i h2
        split at h
        · cases h
        · simp only [inI, Bool.or_eq_true, Bool.not_eq_true', not_or, Bool.not_eq_false, Bool.and_eq_true, decide_eq_true_eq] at h2
          exact ⟨by simpa using h1, ⟨h2.1.1, h2.1.2, by omega⟩, by omega, fstF_zero h⟩
  · rintro ⟨h1, ⟨h2, h3, h4⟩, h5, h6⟩
    rw [if_neg (by rw [h1]; decide), if_neg (by simp only [inI, Bool.or_eq_true, Bool.not_eq_true', not_or, Bool.not_eq_false, Bool.and_eq_true, decide_eq_true_eq]; omega), if_neg (by omega), fstF_none h6]
theorem evF_of_valid {ps : List Pr} (h : validF ps = true) {p : Nat} (hp : p < ps.length) {i : Nat} (hi : i < ps[p].evs.length) : evF ps p i = 0 := evFirst_get (valid_parts h).2.1 hp hi
section
variable {ps : List Pr} {c : List Int}
end
end Go.AL
end
section
namespace Go.AL
open Go Go.RowKit
set_option maxRecDepth 4000
theorem closed_iff {ps : List Pr} {c : List Int} : closedF ps c = true ↔ ∀ (p : Nat) (hp : p < ps.length) (i : Nat) (hi : i < ps[p].evs.length), ps[p].evs[i].kind = 3 → (i : Int) + 1 ≤ cAt c p → (sndr ps ps[p].evs[i].msg).2 ≤ cAt c (sndr ps ps[p].evs[i].msg).1 := by
  unfold closedF
  rw [Bool.not_eq_true', List.any_eq_false]
  constructor
  · intro h p hp i hi hk hc
    have := h _ (List.mem_of_getElem? (evIds_get hp hi))
    unfold badEv at this
    simp only [Bool.and_eq_true, decide_eq_true_eq, not_and] at this
    have := this ⟨hk, hc⟩
    unfold sndr
    omega
  · intro h x hx
    obtain ⟨k, hk⟩ := List.getElem?_of_mem hx
    obtain ⟨p, hp, i, hi, _, rfl⟩ := evIds_inv hk
    unfold badEv
    simp only [Bool.and_eq_true, decide_eq_true_eq, not_and]
    rintro ⟨h1, h2⟩
    have := h p hp i hi h1 h2
    unfold sndr at this
    omega
section
variable {ps : List Pr} {c j : List Int}
end
end Go.AL
end
section
namespace Go.AL
open Go Go.RowKit
set_option maxRecDepth 4000
/-- It is the least closed one above the counts. -/
theorem closeF_ge {ps : List Pr} (hv : validF ps = true) {c : List Int} (hc : c.length = ps.length) (hr : inRangeF ps c = true) : ∀ p, p < ps.length → cAt c p ≤ cAt (closeF ps c) p := by
  refine miss_ind hv (M := fun c => ∀ p, p < ps.length → cAt c p ≤ cAt (closeF ps c) p) (fun c hc hr h p hp => ?_) (fun c hc hr x h hm p hp => ?_) c hc hr
  · rw [closeF_none h]; exact Int.le_refl _
  · rw [closeF_step hv hc hr h]
    refine Int.le_trans ?_ (hm p hp)
    obtain ⟨_, _, _, _, q, hq, j, hj, _, _, _, rfl, h1⟩ := miss_inv hv hc h
    rw [Int.toNat_natCast, cAt_nat (show p < (c.set q ((j : Int) + 1)).length by rw [List.length_set]; omega), List.getElem_set]
    split
    · rename_i e; subst e; omega
    · rw [cAt_nat (show p < c.length by omega)]; exact Int.le_refl _
theorem closeF_least {ps : List Pr} (hv : validF ps = true) {d : List Int} (hd : d.length = ps.length) (hcl : closedF ps d = true) {c : List Int} (hc : c.length = ps.length) (hr : inRangeF ps c = true) :
    (∀ p, p < ps.length → cAt c p ≤ cAt d p) → ∀ p, p < ps.length → cAt (closeF ps c) p ≤ cAt d p := by
  refine miss_ind hv (M := fun c => (∀ p, p < ps.length → cAt c p ≤ cAt d p) → ∀ p, p < ps.length → cAt (closeF ps c) p ≤ cAt d p) (fun c hc hr h hle => ?_) (fun c hc hr x h hm hle => ?_) c hc hr
  · rw [closeF_none h]; exact hle
  · rw [closeF_step hv hc hr h]
    refine hm fun p hp => ?_
    obtain ⟨a, ha, i, hi, q, hq, j, hj, g1, g2, g3, rfl, h1⟩ := miss_inv hv hc h
    rw [Int.toNat_natCast, cAt_nat (show p < (c.set q ((j : Int) + 1)).length by rw [List.length_set]; omega), List.getElem_set]
    split
    · rename_i e; subst e
      have := closed_iff.1 hcl a ha i hi g1 (Int.le_trans g2 (hle a ha))
      rw [g3] at this
      exact this
    · have := hle p hp
      rw [cAt_nat (show p < c.length by omega)] at this
      exact this
theorem closeF_closed {ps : List Pr} (hv : validF ps = true) {c : List Int} (hc : c.length = ps.length) (hr : inRangeF ps c = true) : closedF ps (closeF ps c) = true := by
  rw [closedF_iff, (closeF_ok hv hc hr).2.2]; rfl
end Go.AL
end
section
namespace Go.AL
open Go Go.RowKit
set_option maxRecDepth 4000
theorem exB_true {E : Elim} {now : Nat → Nat} {p k : Nat} (h : exB E now p k = true) : E.ok p k = false ∨ ∃ q, q < E.n ∧ q ≠ p ∧ (k : Int) < E.need q (now q) p := by
  unfold exB at h
  rw [Bool.or_eq_true, List.any_eq_true] at h
  rcases h with h | ⟨q, hq, h⟩
  · exact .inl (by simpa using h)
  · simp only [Bool.and_eq_true, decide_eq_true_eq] at h
    exact .inr ⟨q, List.mem_range.1 hq, h.1, h.2⟩
section
variable {ex : Nat → Bool} {top k : Nat}
end
theorem find_range_none {n : Nat} {f : Nat → Bool} (h : (List.range n).find? f = none) : ∀ q, q < n → f q = false := fun q hq => by
  rw [List.find?_eq_none] at h
  simpa using h q (List.mem_range.2 hq)
theorem run_least {E : Elim} {d : Nat → Nat} (hd : ∀ p, p < E.n → d p ≤ E.top p ∧ E.ok p (d p) = true) (hc : ∀ q, q < E.n → ∀ k, k ≤ d q → ∀ p, p < E.n → E.need q k p ≤ d p) {now fin : Nat → Nat} {st : List Stp} {l : Bool} (h : RunR E now st fin l) (hI : InE E now) :
    (∀ p, p < E.n → now p ≤ d p) → l = false ∧ ∀ p, p < E.n → fin p ≤ d p := by
  have key : ∀ now, InE E now → (∀ p, p < E.n → now p ≤ d p) → ∀ p, stepP E now = some p → goF E now p ≤ d p := by
    intro now hI hle p h
    obtain ⟨h1, h2, h3, h4, h5, h6, h7⟩ := step_inv hI h
    rcases Nat.lt_or_ge (d p) (goF E now p) with hlt | hge
    · have := h6 (d p) (hle p h1) hlt
      rcases exB_true this with e | ⟨q, hq, hn, e⟩
      · rw [(hd p h1).2] at e; cases e
      · have := hc q hq (now q) (hle q hq) p h1
        omega
    · exact hge
  induction h with
  | stop h => exact fun hle => ⟨rfl, hle⟩
  | lost h hl =>
    intro hle
    have := key _ hI hle _ h
    have := (hd _ (step_inv hI h).1).1
    omega
  | go h hl hr ih =>
    intro hle
    refine ih (inE_step hI hl) fun q hq => ?_
    rename_i p' _ _
    have hk := key _ hI hle _ h
    unfold updN
    split
    · rename_i e; subst e; exact hk
    · exact hle q hq
theorem run_fin {E : Elim} {now fin : Nat → Nat} {st : List Stp} {l : Bool} (h : RunR E now st fin l) (hI : InE E now) : l = false → InE E fin ∧ ∀ p, p < E.n → exB E fin p (fin p) = false := by
  induction h with
  | stop h => exact fun _ => ⟨hI, find_range_none h⟩
  | lost h hl => exact fun h => by cases h
  | go h hl hr ih => exact ih (inE_step hI hl)
end Go.AL
end
section
namespace Go.AL
open Go Go.RowKit
set_option maxRecDepth 4000
theorem ref22_Sent (ps : List Pr) (hs : Sm ps) (hv : validF ps = true) (c : List Int) (hc : c.length = ps.length) (p : Nat) (hp : p < ps.length) (i : Nat) (hi : i < ps[p].evs.length) (hic : (i : Int) < cAt c p) :
    PC Go.Proofs.Tryz.prog 131 [aTr ps, aInts c, ai p, ai i] (ab (!badEv ps c (((p : Int), (i : Int) + 1), ps[p].evs[i]))) := by
  obtain ⟨hl1, hl8⟩ := valid_len hv
  have hl := hs.procs
  have hel := hs.evs _ (List.getElem_mem hp)
  have hgp := getD_map (f := aPr) hp
  have hge := getD_map (f := aEv) hi
  have hbad : badEv ps c (((p : Int), (i : Int) + 1), ps[p].evs[i]) = (decide (ps[p].evs[i].kind = 3) && decide (cAt c (findIn (evIds ps) 2 ps[p].evs[i].msg).1 < (findIn (evIds ps) 2 ps[p].evs[i].msg).2)) := by
    simp only [badEv, decide_eq_true (show (i : Int) + 1 ≤ cAt c p by omega), Bool.and_true]
  rw [hbad]
  have hfd := ref12_Find ps hs 2 ps[p].evs[i].msg
  obtain ⟨f1, f2⟩ := findIn_proc hl1 2 ps[p].evs[i].msg
  have hgs := getD_cAt (c := c) f1 (by omega)
  generalize findIn (evIds ps) 2 ps[p].evs[i].msg = s at *
  refine PC.enter 35 [.tmp 8] [4, 9, 10] Go.Proofs.Tryz.func131 rfl rfl rfl rfl rfl (by simp) (AWp.of ?_); simp only [go_sem]
  repeat (first | ((with_reducible refine AWp.ofC ?_ ?_); (focus exact rfl); simp only [go_sem, hgp, hge]) | ((with_reducible refine an ?_ ?_); focus exact Au))
  intro b9
  repeat (first | ((with_reducible refine AWp.ofC ?_ ?_); (focus exact rfl); simp only [go_sem]) | ((with_reducible refine an ?_ ?_); focus exact Au))
  refine ⟨fun h3 => ?_, fun h3 => ?_⟩
  · repeat (first | ((with_reducible refine AWp.ofC ?_ ?_); (focus exact rfl); simp only [go_sem]) | ((with_reducible refine an ?_ ?_); focus exact Au))
    refine ret_eq ?_; simp only [go_sem]
    rw [decide_eq_false h3]; rfl
  · repeat (first | ((with_reducible refine AWp.ofC ?_ ?_); (focus exact rfl); simp only [go_sem]) | ((with_reducible refine an ?_ ?_); focus exact Au))
    repeat ((with_reducible refine an ?_ ?_); focus exact As)
    refine (hfd).val.use ?_; simp only [go_sem]
    repeat ((with_reducible refine an ?_ ?_); focus exact As)
    intro b10
    refine AWp.seq ?_
    refine AWp.drawn mixed 8 (by kernel_rfl) ?_; simp only [go_sem, hgs]
    repeat ((with_reducible refine an ?_ ?_); focus exact As)
    repeat (first | ((with_reducible refine AWp.ofC ?_ ?_); (focus exact rfl); simp only [go_sem]) | ((with_reducible refine an ?_ ?_); focus exact Au))
    refine ret_eq ?_; simp only [go_sem]
    rw [decide_eq_true h3, Bool.true_and, ← decide_not]
    congr 2
    simp only [decide_eq_decide]; omega
theorem ref22_Close0 (ps : List Pr) (hs : Sm ps) (hv : validF ps = true) (c : List Int) (hc : c.length = ps.length) (hr : inRangeF ps c = true)
    (hrec : ∀ x, missF ps c = some x → PC Go.Proofs.Tryz.prog 73 [aTr ps, aInts (c.set x.1.1.toNat x.1.2)] (aInts (closeF ps (c.set x.1.1.toNat x.1.2)))) :
    PC Go.Proofs.Tryz.prog 73 [aTr ps, aInts c] (aInts (closeF ps c)) := by
  obtain ⟨hl1, hl8⟩ := valid_len hv
  have hl := hs.procs
  refine PC.enter 53 [.tmp 4] [2, 8] Go.Proofs.Tryz.func73 rfl rfl rfl rfl rfl (by simp) (AWp.of ?_); simp only [go_sem]
  repeat (first | ((with_reducible refine AWp.ofC ?_ ?_); (focus exact rfl); simp only [go_sem]) | ((with_reducible refine an ?_ ?_); focus exact Au))
  intro b0
  refine ⟨⟨by omega, by omega⟩, fun b cap hcap => ?_⟩
  have hvw : Vws [(b, .row 3 1 (c.map ai) cap)] [aTr ps, .ls b 1 0 c.length cap] [aTr ps, aInts c] := Vws.cons (.refl _) (Vws.cons (Vw.ofLs (if_pos rfl) (by rw [List.length_map])) .nil)
  repeat ((with_reducible refine an ?_ ?_); focus exact As)
  refine AWp.of ?_; simp only [go_sem]
  refine AWp.block (AWp.count 6 c.length [] [2, 5] (fun p vs L => L = [(b, .row 3 1 (c.map ai) cap)] ∧ ∀ (j : Nat) (y : Eid × Ev), j < off ps p → (evIds ps)[j]? = some y → badEv ps c y = false) rfl rfl ⟨rfl, by simp [off]⟩ ?_)
  rintro p vs L hp - ⟨rfl, hI⟩
  simp only [go_sem]
  repeat (first | ((with_reducible refine AWp.ofC ?_ ?_); (focus exact rfl); simp only [go_sem]) | ((with_reducible refine an ?_ ?_); focus exact Au))
  refine ⟨fun h1 => ?_, fun h1 => ?_⟩
  · have hpc : p < c.length := by omega
    have hpp : p < ps.length := by omega
    have hgP := getD_map (f := aPr) hpp
    have hgc := getD_map (f := ai) hpc
    have hel := hs.evs _ (List.getElem_mem hpp)
    obtain ⟨hr1, hr2⟩ := inRangeF_get hr hc hpp
    repeat (first | ((with_reducible refine AWp.ofC ?_ ?_); (focus exact rfl); simp only [go_sem]) | ((with_reducible refine an ?_ ?_); focus exact Au))
    refine AWp.block (AWp.count 7 c[p].toNat [] [2, 5, 6] (fun i vs L => L = [(b, .row 3 1 (c.map ai) cap)] ∧ ∀ (j : Nat) (y : Eid × Ev), j < off ps p + i → (evIds ps)[j]? = some y → badEv ps c y = false) rfl rfl ⟨rfl, hI⟩ ?_)
    rintro i vs L hi - ⟨rfl, hJ⟩
    simp only [go_sem]
    repeat (first | ((with_reducible refine AWp.ofC ?_ ?_); (focus exact rfl); simp only [go_sem, hgc]) | ((with_reducible refine an ?_ ?_); focus exact Au))
    refine ⟨fun h2 => ?_, fun h2 => ?_⟩
    · have hie : i < ps[p].evs.length := by omega
      have hge := getD_map (f := aEv) hie
      have hev := evIds_get hpp hie
      have hsn := ref22_Sent ps hs hv c hc p hpp i hie (by rw [cAt_nat hpc]; omega)
      repeat (first | ((with_reducible refine AWp.ofC ?_ ?_); (focus exact rfl); simp only [go_sem]) | ((with_reducible refine an ?_ ?_); focus exact Au))
      have hvw2 : Vws [(b, .row 3 1 (c.map ai) cap)] [aTr ps, .ls b 1 0 c.length cap, ai p, ai i] [aTr ps, aInts c, ai p, ai i] := Vws.cons (.refl _) (Vws.cons (Vw.ofLs (if_pos rfl) (by rw [List.length_map])) (Vws.refl _))
      refine (PC.view hvw2 hsn (Own.v _) ?_).val
      simp only [go_sem]
      cases hb : badEv ps c (((p : Int), (i : Int) + 1), ps[p].evs[i]) with
      | false =>
        repeat (first | ((with_reducible refine AWp.ofC ?_ ?_); (focus exact rfl); simp only [go_sem]) | ((with_reducible refine an ?_ ?_); focus exact Au))
        refine ⟨_, List.Sublist.refl _, rfl, fun j y hj hy => ?_⟩
        by_cases e : j = off ps p + i
        · subst e; rw [hev] at hy; cases hy; exact hb
        · exact hJ j y (by omega) hy
      | true =>
        have hm := missF_hit hev hJ hb
        have hrec := hrec _ hm
        have hst := closeF_step hv hc hr hm
        have hfd := ref12_Find ps hs 2 ps[p].evs[i].msg
        obtain ⟨f1, f2⟩ := findIn_proc hl1 2 ps[p].evs[i].msg
        dsimp only at hrec hst
        rw [← hst] at hrec
        generalize findIn (evIds ps) 2 ps[p].evs[i].msg = s at *
        have hgs := getD_cAt (c := c) f1 (by omega)
        repeat (first | ((with_reducible refine AWp.ofC ?_ ?_); (focus exact rfl); simp only [go_sem]) | ((with_reducible refine an ?_ ?_); focus exact Au))
        refine AWp.seq ?_
        refine AWp.mix mixed [0, 1, 2, 3, 4, 5, 6, 7, 8, 9, 10, 11] (.step 12 (.step 13 .done .done) .done) (by kernel_rfl) ?_; simp only [go_sem, hgP, hge]
        repeat ((with_reducible refine an ?_ ?_); focus exact As)
        repeat ((with_reducible refine an ?_ ?_); focus exact As)
        refine GCall.use (aEid s) (fun _ => ⟨At, (hfd).val.use ⟨rfl, rfl⟩⟩) ?_; simp only [go_sem]
        repeat ((with_reducible refine an ?_ ?_); focus exact As)
        intro b8 g8
        have n1 : ¬ b8 = b := by omega
        have n2 : ¬ b = b8 := by omega
        repeat (first | ((with_reducible refine AWp.ofC ?_ ?_); (focus exact rfl); simp only [go_sem, n1, n2, hgs]) | ((with_reducible refine an ?_ ?_); focus exact Au))
        rw [← List.map_set]
        have hvw3 : Vws [(b, .row 3 1 ((c.set s.1.toNat s.2).map ai) cap)] [aTr ps, .ls b 1 0 c.length cap] [aTr ps, aInts (c.set s.1.toNat s.2)] := Vws.cons (.refl _) (Vws.cons (Vw.ofLs (if_pos rfl) (by rw [List.length_map, List.length_set])) .nil)
        refine MVal.pass (Lf := [(b, .row 3 1 ((c.set s.1.toNat s.2).map ai) cap)]) (Li := []) (Lr := []) (.refl _) hvw3 hrec.val ?_
        rintro r L1 ⟨rfl, rfl⟩
        refine ⟨[], .refl _, ?_⟩
        simp only [go_sem]
        repeat (first | ((with_reducible refine AWp.ofC ?_ ?_); (focus exact rfl); simp only [go_sem]) | ((with_reducible refine an ?_ ?_); focus exact Au))
        refine ret_eq ?_; simp only [go_sem]
    · repeat (first | ((with_reducible refine AWp.ofC ?_ ?_); (focus exact rfl); simp only [go_sem]) | ((with_reducible refine an ?_ ?_); focus exact Au))
      refine ⟨_, List.Sublist.refl _, rfl, fun j y hj hy => ?_⟩
      rw [off_succ hpp] at hj
      by_cases e : j < off ps p + i
      · exact hJ j y e hy
      · obtain ⟨i', hi'⟩ : ∃ i', j = off ps p + i' := ⟨j - off ps p, by omega⟩
        subst hi'
        have hie : i' < ps[p].evs.length := by omega
        rw [evIds_get hpp hie] at hy; cases hy
        simp only [badEv, cAt_nat hpc, decide_eq_false (show ¬ (i' : Int) + 1 ≤ c[p] by omega), Bool.and_false, Bool.false_and]
  · repeat (first | ((with_reducible refine AWp.ofC ?_ ?_); (focus exact rfl); simp only [go_sem]) | ((with_reducible refine an ?_ ?_); focus exact Au))
    refine ret_view [true] ?_; simp only [go_sem]
    have hm := missF_none (ps := ps) (c := c) (fun j y hy => hI j y (by
      have : p = ps.length := by omega
      rw [this, ← evIds_length]; exact (List.getElem?_eq_some_iff.1 hy).1) hy)
    rw [closeF_none hm]
    exact Vw.ofLs (if_pos rfl) (by rw [List.length_map])
theorem ref22_Close (ps : List Pr) (hs : Sm ps) (hv : validF ps = true) (c : List Int) (hc : c.length = ps.length) (hr : inRangeF ps c = true) :
    PC Go.Proofs.Tryz.prog 73 [aTr ps, aInts c] (aInts (closeF ps c)) :=
  miss_ind hv (M := fun c => PC Go.Proofs.Tryz.prog 73 [aTr ps, aInts c] (aInts (closeF ps c))) (fun c hc hr h => ref22_Close0 ps hs hv c hc hr fun x hx => by rw [h] at hx; cases hx)
    (fun c hc hr x h hm => ref22_Close0 ps hs hv c hc hr fun y hy => by rw [h] at hy; cases hy; exact hm) c hc hr
end Go.AL
end
section
namespace Go.AL
open Go Go.RowKit
set_option maxRecDepth 4000
theorem conF_inv {ps : List Pr} {ts : List Pd} (h : conF ps ts = 0) : validF ps = true ∧ ts.length = ps.length ∧ ∀ q (hq : q < ts.length), lclF ps q 0 ts[q] = 0 := by
  by_cases h1 : validF ps = true ∧ ts.length = ps.length
  · refine ⟨h1.1, h1.2, fun q hq => ?_⟩
    have e : ∀ q (hq : q < ts.length), lclAt (fun p t => lclF ps p 0 t) ts q = lclF ps q 0 ts[q] := fun q hq => by unfold lclAt; rw [List.getElem?_eq_getElem hq]
    unfold conF at h
    rw [if_pos h1] at h
    cases hf : (List.range ts.length).find? (fun p => decide (lclAt (fun p t => lclF ps p 0 t) ts p ≠ 0)) with
    | some p =>
      rw [hf] at h
      have := (find_range hf).2.1
      have h : lclAt (fun p t => lclF ps p 0 t) ts p = 0 := h
      rw [h] at this; simp at this
    | none =>
      have := find_range_none hf q hq
      rw [e q hq] at this
      simpa using this
  · rw [conF_bad h1] at h; cases h
end Go.AL
end
section
namespace Go.AL
open Go Go.RowKit
set_option maxRecDepth 4000
theorem dnA_I (n : Nat) (f : Nat → Nat) : .sl 1 (dnA n f) = aInts (cutL n f) := by unfold aInts cutL dnA; rw [List.map_map]; rfl
theorem cutL_len (n : Nat) (f : Nat → Nat) : (cutL n f).length = n := by simp [cutL]
end Go.AL
end
section
namespace Go.AL
open Go Go.RowKit
set_option maxRecDepth 4000
theorem elim_need (ps : List Pr) (ts : List Pd) : NeedOk ps (elimOf ps ts) := ⟨rfl, fun _ hp => nev_get hp, fun _ _ _ => rfl⟩
theorem stC_cAt {n p q : Nat} {k : Int} (hq : q < n) : cAt (stC n p k) q = if p = q then k else 0 := by
  rw [cAt_nat (by rw [stC_len]; exact hq)]
  unfold stC
  rw [List.getElem_set, List.getElem_replicate]
theorem need_le {ps : List Pr} (hv : validF ps = true) {d : List Int} (hd : d.length = ps.length) (hr : inRangeF ps d = true) (hcl : closedF ps d = true) {q k : Nat} (hq : q < ps.length) (hk : (k : Int) ≤ cAt d q) : ∀ p, p < ps.length → cAt (closeF ps (stC ps.length q k)) p ≤ cAt d p := by
  have h0 := (inRange_iff hd).1 hr
  obtain ⟨a1, a2⟩ := stC_ok (k := (k : Int)) hq (by omega) (by have := (h0 q hq).2; omega)
  refine closeF_least hv hd hcl a1 a2 fun p hp => ?_
  rw [stC_cAt hp]
  split
  · rename_i e; subst e; exact hk
  · exact (h0 p hp).1
theorem peer_ne {ps : List Pr} (hv : validF ps = true) {p : Nat} (hp : p < ps.length) {i : Nat} (hi : i < ps[p].evs.length) (hk : ps[p].evs[i].kind = 3) : ps[p].evs[i].peer.toNat ≠ p := by
  have h := (evF_parts hp hi).1 (evF_of_valid hv hp hi)
  have h := h.1
  unfold formedI at h
  rw [if_neg (by omega), if_pos (.inr hk)] at h
  simp only [Bool.and_eq_true, Bool.not_eq_true', decide_eq_false_iff_not] at h
  have h0 := h.1.1
  unfold inI at h0
  simp only [Bool.and_eq_true, decide_eq_true_eq] at h0
  intro e
  exact h.1.2 (by omega)
section
variable {ps : List Pr} {E : Elim}
theorem sat_run (hv : validF ps = true) (hN : NeedOk ps E) {d : List Int} (hd : SatD ps E d) {fin : Nat → Nat} {st : List Stp} {l : Bool} (h : RunR E (fun _ => 0) st fin l) : l = false ∧ ∀ p, p < ps.length → (fin p : Int) ≤ cAt d p := by
  have h0 := (inRange_iff hd.len).1 hd.rng
  obtain ⟨e1, e2⟩ := run_least (E := E) (d := fun p => (cAt d p).toNat) (fun p hp => by
    rw [hN.n] at hp
    refine ⟨?_, hd.ok p hp⟩
    rw [hN.top p hp]
    have := h0 p hp; omega) (fun q hq k hk p hp => by
    rw [hN.n] at hq hp
    rw [hN.need]
    have h1 := h0 q hq
    have h2 := h0 p hp
    have := need_le hv hd.len hd.rng hd.clo hq (k := k) (by omega) p hp
    omega) h (inE_zero E) (fun p _ => Nat.zero_le _)
  refine ⟨e1, fun p hp => ?_⟩
  have := e2 p (by rw [hN.n]; exact hp)
  have := h0 p hp
  omega
theorem run_sat (hv : validF ps = true) (hN : NeedOk ps E) {fin : Nat → Nat} {st : List Stp} (h : RunR E (fun _ => 0) st fin false) : SatD ps E (cutL ps.length fin) := by
  obtain ⟨hI, hex⟩ := run_fin h (inE_zero E) rfl
  have hc : ∀ p, p < ps.length → cAt (cutL ps.length fin) p = fin p := fun p hp => by
    rw [cAt_nat (by rw [cutL_len]; exact hp)]; simp [cutL]
  have hle : ∀ p (hp : p < ps.length), fin p ≤ ps[p].evs.length := fun p hp => by
    have := hI p (by rw [hN.n]; exact hp)
    rw [hN.top p hp] at this; exact this
  refine ⟨cutL_len _ _, (inRange_iff (cutL_len _ _)).2 fun p hp => ?_, closed_iff.2 fun p hp i hi hk hle' => ?_, fun p hp => ?_⟩
  · rw [hc p hp]; have := hle p hp; omega
  · obtain ⟨hq, j, hj, e, _, _⟩ := recv_peer (valid_parts hv).2.2 hp hi hk
    have hne := peer_ne hv hp hi hk
    rw [e]
    simp only
    rw [hc p hp] at hle'
    rw [hc _ hq]
    obtain ⟨a1, a2⟩ := stC_ok (k := (fin p : Int)) hp (by omega) (by have := hle p hp; omega)
    have hcl := closed_iff.1 (closeF_closed hv a1 a2) p hp i hi hk (by
      have := closeF_ge hv a1 a2 p hp
      rw [stC_cAt hp, if_pos rfl] at this
      omega)
    rw [e] at hcl
    simp only at hcl
    have := (exB_false.1 (hex _ (by rw [hN.n]; exact hq))).2 p (by rw [hN.n]; exact hp) (Ne.symm hne)
    rw [hN.need] at this
    omega
  · have := (exB_false.1 (hex p (by rw [hN.n]; exact hp))).1
    rw [hc p hp, Int.toNat_natCast]; exact this
/-- There is a cut that satisfies the locals exactly if elimination is not lost, and what it finds is the least. -/
theorem lost_iff (hv : validF ps = true) (hN : NeedOk ps E) : lostF E = false ↔ ∃ d, SatD ps E d := by
  have hr := run_spec E
  constructor
  · intro h; rw [h] at hr; exact ⟨_, run_sat hv hN hr⟩
  · rintro ⟨d, hd⟩; exact (sat_run hv hN hd hr).1
theorem fin_least (hv : validF ps = true) (hN : NeedOk ps E) (h : lostF E = false) : SatD ps E (cutL ps.length (finF E)) ∧ ∀ d, SatD ps E d → ∀ p, p < ps.length → cAt (cutL ps.length (finF E)) p ≤ cAt d p := by
  have hr := run_spec E
  rw [h] at hr
  refine ⟨run_sat hv hN hr, fun d hd p hp => ?_⟩
  rw [cAt_nat (by rw [cutL_len]; exact hp)]
  have := (sat_run hv hN hd hr).2 p hp
  simpa [cutL] using this
theorem cut_ext {c d : List Int} (hl : c.length = d.length) (h : ∀ p, p < c.length → cAt c p = cAt d p) : c = d := by
  apply List.ext_getElem hl
  intro i h1 h2
  have := h i h1
  rwa [cAt_nat h1, cAt_nat h2] at this
theorem least_eq {c d : List Int} (hc : SatD ps E c) (hd : SatD ps E d) (h1 : ∀ e, SatD ps E e → ∀ p, p < ps.length → cAt c p ≤ cAt e p) (h2 : ∀ e, SatD ps E e → ∀ p, p < ps.length → cAt d p ≤ cAt e p) : c = d :=
  cut_ext (by rw [hc.len, hd.len]) fun p hp => by
    rw [hc.len] at hp
    have := h1 d hd p hp
    have := h2 c hc p hp
    omega
end
end Go.AL
end
section
namespace Go.AL
open Go Go.RowKit
set_option maxRecDepth 4000
theorem MCalls.toPC {P : Program} {f : FuncId} {args : List AV} {K : AV → AHeap → Prop} {r' : AV} (h : MCalls P f args [] K) (hv : ∀ r L, K r L → Vw L r r') : PC P f args r' :=
  ⟨h.1, fun n w A vs hL hr => (h.2 n w A vs hL hr).mono fun e w' ⟨v, r, L', A', he, hK, hf, hA, hL', hk, hr'⟩ =>
    ⟨v, r', [], fun b => A' b ∨ keysOf L' b, he, ⟨rfl, rfl⟩, hf, fun b hb => hb.elim (hA b) (fun ⟨x, hx, e⟩ => by subst e; exact (hk x hx).elim (fun ⟨y, hy, _⟩ => by cases hy) (fun h => .inr (.inr h))), hL'.viewed (Lf := L') (Lk := []) (by simp) .nil, (by intro x hx; cases hx), hL'.view (Lf := L') (Lk := []) (by simp) (hv r L' hK) hr'⟩⟩
theorem conj_Possibly (ps : List Pr) (hs : Sm ps) (ts : List Pd) (hz : ∀ t ∈ ts, szF t ≤ 1000000) (htl : ts.length ≤ 1000000) : PC Go.Proofs.Tryz.prog 30 [aTr ps, .sl 6 (ts.map aPd)] (aPossR ps ts) := by
  refine (conj_PossiblyK ps hs ts hz htl (fun r L => Vw L r (aPossR ps ts)) (fun h hl v Lq hA => ?_) (fun h hl b => ?_) (fun h => ?_)).toPC fun _ _ h => h
  · unfold aPossR ansOf
    rw [if_pos h, hl, if_pos rfl]
    refine .mkTup (Vws.cons (.mkAgg ?_) (Vws.refl _))
    refine Vws.cons (.refl _) (Vws.cons (.refl _) (Vws.cons (.refl _) (Vws.cons (.nil 1) (Vws.cons (.nil 1) (Vws.cons (.nil 1) (Vws.cons ?_ (Vws.refl _)))))))
    rw [← aStp_I]
    have := hA.vw []
    rwa [List.append_nil] at this
  · unfold aPossR ansOf
    rw [if_pos h, hl, if_neg (by decide)]
    refine .mkTup (Vws.cons (.mkAgg ?_) (Vws.refl _))
    refine Vws.cons (.refl _) (Vws.cons (.refl _) (Vws.cons (.refl _) (Vws.cons ?_ (Vws.cons (.nil 1) (Vws.cons (.nil 1) (Vws.cons (.nil 3) (Vws.refl _)))))))
    rw [← dnA_I]
    exact Vw.ofLs (if_pos rfl) (dnA_length _ _).symm
  · unfold aPossR
    rw [if_neg h]
    refine .mkTup (Vws.cons (.mkAgg ?_) (Vws.refl _))
    exact Vws.cons (.refl _) (Vws.cons (.refl _) (Vws.cons (.refl _) (Vws.cons (.nil 1) (Vws.cons (.nil 1) (Vws.cons (.nil 1) (Vws.cons (.nil 3) (Vws.refl _)))))))
end Go.AL
end
section
namespace Go.AL
open Go Go.RowKit
set_option maxRecDepth 4000
section
variable {b : Nat → Bool} {p : Nat}
theorem spL_zero : spL b p 0 = [] := rfl
theorem spS_from : ∀ k f, (spS b p k).2 = some f → f < k
  | 0, f, h => by cases h
  | k + 1, f, h => by
    unfold spS at h
    split at h
    · rename_i d f' h1 h2
      cases h
      have := spS_from k f (by rw [h1])
      omega
    · cases h; omega
    · cases h
    · cases h
theorem inSp_iff {j p f t : Nat} : inSp j (p, f, t) = true ↔ f ≤ j ∧ j ≤ t := by simp [inSp]
theorem cnt_one (l : List Stp) (j p f t : Nat) : (l ++ [(p, f, t)]).countP (inSp j) = l.countP (inSp j) + if f ≤ j ∧ j ≤ t then 1 else 0 := by
  rw [List.countP_append, List.countP_cons, List.countP_nil]
  by_cases h : f ≤ j ∧ j ≤ t
  · rw [if_pos h, if_pos (inSp_iff.2 h)]
  · rw [if_neg h, if_neg (fun e => h (inSp_iff.1 e))]
theorem spL_in : ∀ (k j : Nat), (spL b p k).countP (inSp j) = if j < k ∧ b j = true then 1 else 0
  | 0, j => by rw [spL_zero]; simp
  | k + 1, j => by
    have ih := spL_in k j
    have hs : j ≠ k → (if j < k + 1 ∧ b j = true then 1 else 0) = if j < k ∧ b j = true then 1 else 0 := fun e => by
      by_cases e2 : j < k ∧ b j = true
      · rw [if_pos e2, if_pos ⟨by omega, e2.2⟩]
      · rw [if_neg e2, if_neg (fun x => e2 ⟨by omega, x.2⟩)]
    cases h : b k with
    | false =>
      rw [spL_no h, ih]
      by_cases e : j = k
      · subst e; rw [if_neg (by omega), if_neg (by rw [h]; simp)]
      · exact (hs e).symm
    | true =>
      cases h0 : decide (0 < k) && b (k - 1) with
      | false =>
        rw [spL_new h h0, cnt_one, ih]
        by_cases e : j = k
        · subst e; rw [if_neg (by omega), if_pos (by omega), if_pos ⟨by omega, h⟩]
        · rw [if_neg (show ¬ (k ≤ j ∧ j ≤ k) by omega), hs e]; rfl
      | true =>
        have hc : ∃ f, (spS b p k).2 = some f := by
          have := spS_cur (b := b) (p := p) k
          rw [h0] at this
          exact Option.isSome_iff_exists.1 this
        obtain ⟨d, f, e1, e2⟩ := spL_on (p := p) h h0
        have hf : f < k := by
          obtain ⟨f', hf'⟩ := hc
          have h5 : spL b p k = (spS b p k).1 ++ [(p, f', k - 1)] := by unfold spL spC; rw [hf']
          have := spS_from k f' hf'
          have h6 := List.append_inj_right' (h5.symm.trans e1) (by simp)
          simp at h6
          omega
        rw [e1, cnt_one] at ih
        rw [e2, cnt_one]
        by_cases e : j = k
        · subst e
          rw [if_neg (show ¬ (f ≤ j ∧ j ≤ j - 1) by omega), if_neg (by omega)] at ih
          rw [if_pos (by omega), if_pos ⟨by omega, h⟩]
          omega
        · rw [hs e, ← ih]
          by_cases e3 : f ≤ j ∧ j ≤ k - 1
          · rw [if_pos e3, if_pos (by omega)]
          · rw [if_neg e3, if_neg (by omega)]
theorem spL_proc : ∀ (k : Nat), ∀ s ∈ spL b p k, s.1 = p
  | 0 => by rw [spL_zero]; intro s h; cases h
  | k + 1 => by
    have ih := spL_proc k
    cases h : b k with
    | false => rw [spL_no h]; exact ih
    | true =>
      cases h0 : decide (0 < k) && b (k - 1) with
      | false =>
        rw [spL_new h h0]
        intro s hs
        rcases List.mem_append.1 hs with hs | hs
        · exact ih s hs
        · simp only [List.mem_singleton] at hs; subst hs; rfl
      | true =>
        obtain ⟨d, f, e1, e2⟩ := spL_on (p := p) h h0
        rw [e1] at ih
        rw [e2]
        intro s hs
        rcases List.mem_append.1 hs with hs | hs
        · exact ih s (List.mem_append_left _ hs)
        · simp only [List.mem_singleton] at hs; subst hs; rfl
end
end Go.AL
end
section
namespace Go.AL
open Go Go.RowKit
set_option maxRecDepth 4000
theorem off_small {ps : List Pr} (hs : Sm ps) : ∀ k, k ≤ ps.length → off ps k ≤ k * 1000000 := by
  intro k
  induction k with
  | zero => intro _; simp [off]
  | succ k ih =>
    intro hk
    rw [off_succ (by omega)]
    have h1 := ih (by omega)
    have h2 := hs.evs _ (List.getElem_mem (show k < ps.length by omega))
    omega
end Go.AL
end
section
namespace Go.AL
open Go Go.RowKit
set_option maxRecDepth 4000
theorem law37_size (ps : List Pr) (hs : Sm ps) : PC Go.Proofs.Tryz.prog 18 [aTr ps] (ai (off ps ps.length)) := by
  have hl := hs.procs
  have hof := off_small hs
  refine PC.enter 20 [.tmp 2] [1, 5] Go.Proofs.Tryz.func18 rfl rfl rfl rfl rfl (by simp) (AWp.of ?_); simp only [go_sem]
  repeat (first | ((with_reducible refine AWp.ofC ?_ ?_); (focus exact rfl); simp only [go_sem]) | ((with_reducible refine an ?_ ?_); focus exact Au))
  refine AWp.range' ps.length [3] [7, 8] (fun k vs L => L = [] ∧ vs = [ai (off ps k)]) (by omega) rfl rfl rfl ⟨rfl, by simp [off]; rfl⟩ ?_ ?_
  · rintro k vs L' hk - ⟨rfl, rfl⟩
    have h1 := hof k (by omega)
    have h2 := hs.evs _ (List.getElem_mem hk)
    simp only [go_sem]
    repeat ((with_reducible refine an ?_ ?_); focus exact As)
    refine AWp.of ?_; simp only [go_sem, getD_map hk]
    repeat ((with_reducible refine an ?_ ?_); focus exact As)
    intros
    refine AWp.of ?_; simp only [go_sem]
    repeat ((with_reducible refine an ?_ ?_); focus exact As)
    exact ⟨_, List.Sublist.refl _, rfl, by rw [off_succ hk]; simp⟩
  · rintro vs L' - ⟨rfl, rfl⟩
    simp only [go_sem]
    repeat (first | ((with_reducible refine AWp.ofC ?_ ?_); (focus exact rfl); simp only [go_sem]) | ((with_reducible refine an ?_ ?_); focus exact Au))
    refine ret_eq ?_; simp only [go_sem]
end Go.AL
end
section
namespace Go.AL
open Go Go.RowKit Go.ChangeShapes Go.WideShapes Go.ChangeAt
section
variable {H : Type} {enc : TypeId × Value → H} {P : Program} {W : World} {t : TypeId}
theorem okWide_cells {r : Go.Reach} {b : Nat} {e : TypeId} {v : Value} (ht : P.underlying t = some (.slice e)) (h : Value.okWide P W r b t v) : v.cells = #[v] := by
  cases v with
  | agg cs =>
    exfalso
    simp only [Value.okWide, ht, Cell.okWide, Cell.ok] at h
  | _ => rfl
end
end Go.AL
end
section
namespace Go.AL
open Go Go.RowKit
set_option maxRecDepth 100000
section
variable {H : Type} {enc : TypeId × Value → H} {W : World}
theorem rdInts : Rd enc Go.Proofs.Tryz.prog W 42 1 aInts (fun l => l.length ≤ maxLen) :=
  (Rd.slice Go.Proofs.Tryz.underlying42 (by kernel_rfl : Program.cellsOf Go.Proofs.Tryz.prog 3 = 1) (by decide) (Rd.int Go.Proofs.Tryz.underlying3)).map id (fun _ => rfl) (fun _ h => h.1)
theorem rdRows : Rd enc Go.Proofs.Tryz.prog W 39 1 aRows (fun l => l.length ≤ maxLen) :=
  (Rd.slice Go.Proofs.Tryz.underlying39 (by kernel_rfl : Program.cellsOf Go.Proofs.Tryz.prog 42 = 1) (by decide) rdInts).map id (fun _ => rfl) (fun _ h => h.1)
end
end Go.AL
end
section
namespace Go.AL
open Go Go.RowKit
set_option maxRecDepth 100000
section
variable {H : Type} {enc : TypeId × Value → H} {W : World}
theorem rdPreds : Rd enc Go.Proofs.Tryz.prog W 25 1 (fun l : List Pd => .sl 6 (l.map aPd)) (fun l => l.length ≤ maxLen) :=
  (Rd.slice Go.Proofs.Tryz.underlying25 (by kernel_rfl : Program.cellsOf Go.Proofs.Tryz.prog 27 = 6) (by decide) (RdF.all rdPredN)).map id (fun _ => rfl) (fun _ h => h.1)
end
end Go.AL
end
section
/- Lists of states: the package conjunctive. No condition. -/
namespace Go.AL
open Go Go.RowKit
set_option maxRecDepth 4000
/-- A place of a list of states that is out of range, or does not ascend. -/
def BadI (n : Nat) (x : List Int) (i : Nat) : Prop := x.getD i 0 < 0 ∨ (n : Int) < x.getD i 0 ∨ (0 < i ∧ x.getD i 0 ≤ x.getD (i - 1) 0)
open Classical in
noncomputable def listsF (ps : List Pr) (l : List (List Int)) : Int := if validF ps = true ∧ l.length = ps.length then (if ∃ p i, p < l.length ∧ i < (l.getD p []).length ∧ BadI (nev ps p) (l.getD p []) i then 2 else 0) else 1
theorem getD_ai {x : List Int} {i : Nat} (hi : i < x.length) : (x.map ai).getD i .any = ai (x.getD i 0) := by
  rw [getD_map hi, List.getD_eq_getElem?_getD, List.getElem?_eq_getElem hi]; rfl
theorem listsF_bad {ps : List Pr} {l : List (List Int)} (h : ¬ (validF ps = true ∧ l.length = ps.length)) : listsF ps l = 1 := by unfold listsF; rw [if_neg h]
theorem listsF_two {ps : List Pr} {l : List (List Int)} (h : validF ps = true ∧ l.length = ps.length) {p : Nat} (hp : p < l.length) {i : Nat} (hi : i < l[p].length) (hb : BadI (nev ps p) l[p] i) : listsF ps l = 2 := by
  have e : l.getD p [] = l[p] := by rw [List.getD_eq_getElem?_getD, List.getElem?_eq_getElem hp]; rfl
  unfold listsF
  rw [if_pos h, if_pos ⟨p, i, hp, by rw [e]; exact hi, by rw [e]; exact hb⟩]
theorem listsF_zero {ps : List Pr} {l : List (List Int)} (h : validF ps = true ∧ l.length = ps.length) (h0 : ∀ p (hp : p < l.length), ∀ i, i < l[p].length → ¬ BadI (nev ps p) l[p] i) : listsF ps l = 0 := by
  unfold listsF
  rw [if_pos h, if_neg]
  rintro ⟨p, i, hp, hi, hb⟩
  have e : l.getD p [] = l[p] := by rw [List.getD_eq_getElem?_getD, List.getElem?_eq_getElem hp]; rfl
  rw [e] at hi hb
  exact h0 p hp i hi hb
theorem listsF_inv {ps : List Pr} {l : List (List Int)} (h : listsF ps l = 0) : validF ps = true ∧ l.length = ps.length ∧ ∀ p (hp : p < l.length), ∀ i, i < l[p].length → ¬ BadI (nev ps p) l[p] i := by
  by_cases h1 : validF ps = true ∧ l.length = ps.length
  · refine ⟨h1.1, h1.2, fun p hp i hi hb => ?_⟩
    rw [listsF_two h1 hp hi hb] at h; cases h
  · rw [listsF_bad h1] at h; cases h
theorem conj_lists (ps : List Pr) (hs : Sm ps) (l : List (List Int)) (hl : l.length ≤ 1000000) (hx : ∀ x ∈ l, x.length ≤ 1000000) : PC Go.Proofs.Tryz.prog 68 [aTr ps, aRows l] (ai (listsF ps l)) := by
  have h1 := trace_Valid ps hs
  by_cases hv : validF ps = true ∧ l.length = ps.length
  · have hvl : (l.length : Int) = ps.length := by omega
    rw [hv.1] at h1
    have h2 := fun p hp i hi hb => listsF_two hv (p := p) hp (i := i) hi hb
    have h0 := listsF_zero hv
    generalize listsF ps l = F at *
    unfold aRows
    refine PC.enter 62 [.tmp 4] [2] Go.Proofs.Tryz.func68 rfl rfl rfl rfl rfl (by simp) (AWp.of ?_); simp only [go_sem]
    repeat (first | ((with_reducible refine AWp.ofC ?_ ?_); (focus exact rfl); simp only [go_sem]) | ((with_reducible refine an ?_ ?_); focus exact Au))
    repeat ((with_reducible refine an ?_ ?_); focus exact As)
    refine (h1).val.use ?_; simp only [go_sem, hvl]
    repeat (first | ((with_reducible refine AWp.ofC ?_ ?_); (focus exact rfl); simp only [go_sem, hvl]) | ((with_reducible refine an ?_ ?_); focus exact Au))
    refine AWp.range' ps.length [] [2, 20, 21] (fun p vs L => L = [] ∧ ∀ q (hq : q < l.length), q < p → ∀ i, i < l[q].length → ¬ BadI (nev ps q) l[q] i) (by omega) rfl rfl rfl ⟨rfl, fun q hq h => by omega⟩ ?_ ?_
    · rintro p vs L hpp - ⟨rfl, hJ⟩
      have hp : p < l.length := by omega
      have hgl : (l.map aInts).getD p .any = .sl 1 (l[p].map ai) := getD_map (f := aInts) hp
      have hgp := getD_map (f := aPr) hpp
      have hel := hs.evs _ (List.getElem_mem hpp)
      have hxl := hx _ (List.getElem_mem hp)
      have hn : nev ps p = ps[p].evs.length := nev_get hpp
      have h2 := h2 p hp
      rw [hn] at h2
      have hJ2 : (∀ i, i < l[p].length → ¬ BadI ps[p].evs.length l[p] i) → ∀ q (hq : q < l.length), q < p + 1 → ∀ i, i < l[q].length → ¬ BadI (nev ps q) l[q] i := fun e q hq h => by
        by_cases eq : q = p
        · subst eq; rw [hn]; exact e
        · exact hJ q hq (by omega)
      generalize l[p] = x at *
      generalize ps[p] = y at *
      simp only [go_sem]
      repeat (first | ((with_reducible refine AWp.ofC ?_ ?_); (focus exact rfl); simp only [go_sem, hgl]) | ((with_reducible refine an ?_ ?_); focus exact Au))
      refine AWp.range' x.length [] [2, 5, 6, 20, 21, 22, 27, 28] (fun i vs L => L = [] ∧ ∀ j, j < i → ¬ BadI y.evs.length x j) (by omega) rfl rfl rfl ⟨rfl, fun j h => by omega⟩ ?_ ?_
      · rintro i vs L hi - ⟨rfl, hK⟩
        have g0 := getD_ai hi
        have g1 := getD_ai (show i - 1 < x.length by omega)
        have gi : ((i : Int) - 1).toNat = i - 1 := by omega
        have h2 := h2 i hi
        unfold BadI at h2
        simp only [go_sem]
        repeat (first | ((with_reducible refine AWp.ofC ?_ ?_); (focus exact rfl); simp only [go_sem, g0, g1, gi, hgp, hvl]) | ((with_reducible refine an ?_ ?_); focus exact Au))
        refine ⟨fun h3 => ?_, fun h3 => ?_⟩
        · repeat (first | ((with_reducible refine AWp.ofC ?_ ?_); (focus exact rfl); simp only [go_sem]) | ((with_reducible refine an ?_ ?_); focus exact Au))
          refine ret_eq ?_; simp only [go_sem]
          rw [h2 (by omega)]
        · intro h4 h5
          refine ⟨_, List.Sublist.refl _, rfl, fun j hj => ?_⟩
          by_cases ej : j = i
          · subst ej; unfold BadI; omega
          · exact hK j (by omega)
      · rintro vs L - ⟨rfl, hK⟩
        simp only [go_sem]
        exact ⟨_, List.Sublist.refl _, rfl, hJ2 fun i hi => hK i hi⟩
    · rintro vs L - ⟨rfl, hJ⟩
      simp only [go_sem]
      repeat (first | ((with_reducible refine AWp.ofC ?_ ?_); (focus exact rfl); simp only [go_sem]) | ((with_reducible refine an ?_ ?_); focus exact Au))
      refine ret_eq ?_; simp only [go_sem]
      rw [h0 fun p hp => hJ p hp (by omega)]
  · rw [listsF_bad hv]
    unfold aRows
    by_cases hv1 : validF ps = true
    · have hvl : ¬ (l.length : Int) = ps.length := fun e => hv ⟨hv1, by omega⟩
      rw [hv1] at h1
      refine PC.enter 62 [.tmp 4] [2] Go.Proofs.Tryz.func68 rfl rfl rfl rfl rfl (by simp) (AWp.of ?_); simp only [go_sem]
      repeat (first | ((with_reducible refine AWp.ofC ?_ ?_); (focus exact rfl); simp only [go_sem]) | ((with_reducible refine an ?_ ?_); focus exact Au))
      repeat ((with_reducible refine an ?_ ?_); focus exact As)
      refine (h1).val.use ?_; simp only [go_sem, hvl]
      repeat (first | ((with_reducible refine AWp.ofC ?_ ?_); (focus exact rfl); simp only [go_sem, hvl]) | ((with_reducible refine an ?_ ?_); focus exact Au))
      refine ret_eq ?_; simp only [go_sem]
    · rw [show validF ps = false by simpa using hv1] at h1
      refine PC.enter 62 [.tmp 4] [2] Go.Proofs.Tryz.func68 rfl rfl rfl rfl rfl (by simp) (AWp.of ?_); simp only [go_sem]
      repeat (first | ((with_reducible refine AWp.ofC ?_ ?_); (focus exact rfl); simp only [go_sem]) | ((with_reducible refine an ?_ ?_); focus exact Au))
      repeat ((with_reducible refine an ?_ ?_); focus exact As)
      refine (h1).val.use ?_; simp only [go_sem]
      repeat (first | ((with_reducible refine AWp.ofC ?_ ?_); (focus exact rfl); simp only [go_sem]) | ((with_reducible refine an ?_ ?_); focus exact Au))
      refine ret_eq ?_; simp only [go_sem]
end Go.AL
end
