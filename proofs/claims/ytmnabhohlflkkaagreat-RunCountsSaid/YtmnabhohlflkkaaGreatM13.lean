/- Texts of this claim's proof: WU2, WU3, WU4, WU5, WU6, WU8, WRt, WRt7. No condition. -/
import Derived.Test.YtmnabhohlflkkaaGreatM12
import Derived.Test.YtmnabhohlflkkaaGreatM11
import Derived.Test.YtmnabhohlflkkaaGreatM8
import Derived.Test.YtmnabhohlflkkaaGreatM10
import Derived.Test.YtmnabhohlflkkaaGreatM7
import Derived.Test.YtmnabhohlflkkaaGreatM4
section
/- The reference of steps and of events that come next: More, Sent, Enabled, With, Lengths. No condition. -/
namespace Go.AL
open Go Go.RowKit
set_option maxRecDepth 4000
theorem ref22_With (c : List Int) (hc : Cb c) (p : Nat) (hp : p < c.length) : PC Go.Proofs.Tryz.prog 58 [aInts c, ai p] (aInts (stpC c p)) := by
  have hl := hc.1
  have hz := hc.2 _ (List.getElem_mem hp)
  have hg := getD_map (f := ai) hp
  have hst : (c.map ai).set p (ai (c[p] + 1)) = (stpC c p).map ai := by unfold stpC; rw [cAt_nat hp, List.map_set]
  have hsl : (stpC c p).length = c.length := by unfold stpC; rw [List.length_set]
  refine PC.enter 16 [.tmp 4] [] Go.Proofs.Tryz.func58 rfl rfl rfl rfl rfl (by simp) (AWp.of ?_); simp only [go_sem]
  repeat (first | ((with_reducible refine AWp.ofC ?_ ?_); (focus exact rfl); simp only [go_sem]) | ((with_reducible refine an ?_ ?_); focus exact Au))
  intro b0
  refine ⟨⟨by omega, by omega⟩, fun b cap hcap => ?_⟩
  repeat (first | ((with_reducible refine AWp.ofC ?_ ?_); (focus exact rfl); simp only [go_sem, hg]) | ((with_reducible refine an ?_ ?_); focus exact Au))
  repeat ((with_reducible refine an ?_ ?_); focus exact As)
  rw [hst]
  refine ret_view [true] ?_; simp only [go_sem]
  exact Vw.ofLs (if_pos rfl) (by rw [List.length_map, hsl])
theorem ref22_More (ps : List Pr) (hs : Sm ps) (c : List Int) (p : Nat) (hp : p < ps.length) (hpc : p < c.length) : PC Go.Proofs.Tryz.prog 96 [aTr ps, aInts c, ai p] (ab (decide (cAt c p < nev ps p))) := by
  have hl := hs.procs
  have hel := hs.evs _ (List.getElem_mem hp)
  have hgp := getD_map (f := aPr) hp
  have hgc := getD_map (f := ai) hpc
  have h1 := nev_get hp
  have h2 := cAt_nat hpc
  rw [h1, h2]
  refine PC.enter 19 [.tmp 6] [3] Go.Proofs.Tryz.func96 rfl rfl rfl rfl rfl (by simp) (AWp.of ?_); simp only [go_sem]
  repeat (first | ((with_reducible refine AWp.ofC ?_ ?_); (focus exact rfl); simp only [go_sem]) | ((with_reducible refine an ?_ ?_); focus exact Au))
  refine AWp.seq ?_
  repeat (first | (with_reducible refine AWp.seq ?_) | (with_reducible refine AWp.block ?_))
  refine AWp.read mixed [0, 1, 2, 3, 4, 5, 6, 7, 8, 9, 10, 11, 12] (by kernel_rfl) ?_; simp only [go_sem, hgp, hgc]
  repeat ((with_reducible refine an ?_ ?_); focus exact As)
  repeat (first | ((with_reducible refine AWp.ofC ?_ ?_); (focus exact rfl); simp only [go_sem]) | ((with_reducible refine an ?_ ?_); focus exact Au))
  refine ret_eq ?_; simp only [go_sem]
theorem ref22_SentN (ps : List Pr) (hs : Sm ps) (hv : validF ps = true) (c : List Int) (hc : isF ps c = true) (p : Nat) (hp : p < ps.length) (i : Nat) (hi : i < ps[p].evs.length) (hic : cAt c p = i) :
    PC Go.Proofs.Tryz.prog 97 [aTr ps, aInts c, ai p, ai i] (ab (isF ps (stpC c p))) := by
  obtain ⟨hl1, hl8⟩ := valid_len hv
  obtain ⟨hcl, hcr, _⟩ := isF_iff.1 hc
  have hl := hs.procs
  have hel := hs.evs _ (List.getElem_mem hp)
  have hgp := getD_map (f := aPr) hp
  have hge := getD_map (f := aEv) hi
  have hsp := stp_iff hv hc hp hi hic
  have hne : needE ps ps[p].evs[i] = if ps[p].evs[i].kind = 3 then findIn (evIds ps) 2 ps[p].evs[i].msg else (0, 0) := rfl
  rw [hne] at hsp
  have hfd := ref12_Find ps hs 2 ps[p].evs[i].msg
  obtain ⟨f1, f2⟩ := findIn_proc hl1 2 ps[p].evs[i].msg
  have hgs := getD_cAt (c := c) f1 (by omega)
  have h0 := ((inRange_iff hcl).1 hcr 0 (by omega)).1
  generalize findIn (evIds ps) 2 ps[p].evs[i].msg = s at *
  generalize isF ps (stpC c p) = B at *
  refine PC.enter 35 [.tmp 8] [4, 9, 10] Go.Proofs.Tryz.func97 rfl rfl rfl rfl rfl (by simp) (AWp.of ?_); simp only [go_sem]
  repeat (first | ((with_reducible refine AWp.ofC ?_ ?_); (focus exact rfl); simp only [go_sem, hgp, hge]) | ((with_reducible refine an ?_ ?_); focus exact Au))
  intro b9
  repeat (first | ((with_reducible refine AWp.ofC ?_ ?_); (focus exact rfl); simp only [go_sem]) | ((with_reducible refine an ?_ ?_); focus exact Au))
  refine ⟨fun h3 => ?_, fun h3 => ?_⟩
  · rw [if_neg h3] at hsp
    have hB : B = true := hsp.2 (by simpa using h0)
    subst hB
    repeat (first | ((with_reducible refine AWp.ofC ?_ ?_); (focus exact rfl); simp only [go_sem]) | ((with_reducible refine an ?_ ?_); focus exact Au))
    refine ret_eq ?_; simp only [go_sem]
  · rw [if_pos h3] at hsp
    repeat (first | ((with_reducible refine AWp.ofC ?_ ?_); (focus exact rfl); simp only [go_sem]) | ((with_reducible refine an ?_ ?_); focus exact Au))
    repeat ((with_reducible refine an ?_ ?_); focus exact As)
    refine (hfd).val.use ?_; simp only [go_sem]
    repeat ((with_reducible refine an ?_ ?_); focus exact As)
    intro b10
    refine AWp.seq ?_
    refine AWp.drawn mixed 8 (by kernel_rfl) ?_; simp only [go_sem, hgs]
    repeat ((with_reducible refine an ?_ ?_); focus exact As)
    repeat (first | ((with_reducible refine AWp.ofC ?_ ?_); (focus exact rfl); simp only [go_sem]) | ((with_reducible refine an ?_ ?_); focus exact Au))
    refine ret_eq ?_; simp only [go_sem]
    congr 2
    cases B with
    | true => exact decide_eq_true (hsp.1 rfl)
    | false => exact decide_eq_false fun h => by cases hsp.2 h
def enI (ps : List Pr) (c : List Int) (k : Nat) : List Int := (enF ps c k).map fun (p : Nat) => (p : Int)
theorem enI_succ (ps : List Pr) (c : List Int) (k : Nat) : enI ps c (k + 1) = enI ps c k ++ if rdyF ps c k = true then [(k : Int)] else [] := by
  unfold enI
  rw [enF_succ, List.map_append]
  split <;> rfl
theorem enI_len (ps : List Pr) (c : List Int) (k : Nat) : (enI ps c k).length ≤ k := by unfold enI; rw [List.length_map]; exact enF_len ps c k
theorem ref22_Enabled (ps : List Pr) (hs : Sm ps) (hv : validF ps = true) (c : List Int) (hc : isF ps c = true) : PC Go.Proofs.Tryz.prog 56 [aTr ps, aInts c] (aInts (enI ps c c.length)) := by
  have hcb := isF_cb hs hc
  have hcl := (isF_iff.1 hc).1
  have hcr := (inRange_iff hcl).1 (isF_iff.1 hc).2.1
  have hM := fun p hp hpc => ref22_More ps hs c p hp hpc
  have hS := fun p hp i hi h => ref22_SentN ps hs hv c hc p hp i hi h
  have hlen := fun k => enI_len ps c k
  have hl8 := (valid_len hv).2
  have hR : aInts (enI ps c c.length) = .sl 1 ((enI ps c c.length).map ai) := rfl
  rw [hR]
  refine PC.enter 32 [.tmp 4] [2, 29] Go.Proofs.Tryz.func56 rfl rfl rfl rfl rfl (by simp) (AWp.of ?_); simp only [go_sem]
  repeat (first | ((with_reducible refine AWp.ofC ?_ ?_); (focus exact rfl); simp only [go_sem]) | ((with_reducible refine an ?_ ?_); focus exact Au))
  refine AWp.block (AWp.count 6 c.length [5] [1, 2] (fun k vs L => ∃ v, vs = [v] ∧ AppSt 3 1 ((enI ps c k).map ai) v L) rfl rfl ⟨anil, rfl, .nil⟩ ?_)
  rintro k vs L hk - ⟨v, rfl, hA⟩
  have hfo := hA.fo
  have hyl : ((enI ps c k).map ai).length ≤ k := by rw [List.length_map]; exact hlen k
  simp only [go_sem]
  by_cases hkn : k < c.length
  · have hki : (k : Int) < c.length := by omega
    have hkp : k < ps.length := by omega
    have gc := getD_map (f := ai) hkn
    have h1 := hM k hkp hkn
    have h2 := cAt_nat hkn
    have h3 := hcr k hkp
    obtain ⟨i, hi⟩ : ∃ i : Nat, cAt c k = i := ⟨(cAt c k).toNat, by omega⟩
    have gi : c[k] = (i : Int) := by rw [← h2, hi]
    have hnv := nev_get hkp
    have hsu := congrArg (List.map ai) (enI_succ ps c k)
    rw [List.map_append] at hsu
    have hrd : rdyF ps c k = (decide (cAt c k < nev ps k) && isF ps (stpC c k)) := by
      unfold rdyF
      rw [Bool.decide_and, Bool.decide_eq_true]
    have hSk : cAt c k < nev ps k → PC Go.Proofs.Tryz.prog 97 [aTr ps, aInts c, ai k, ai i] (ab (isF ps (stpC c k))) := fun h => hS k hkp i (by omega) hi
    rw [hrd] at hsu
    generalize hB1 : decide (cAt c k < nev ps k) = B1 at *
    generalize isF ps (stpC c k) = B2 at *
    have hSk : B1 = true → PC Go.Proofs.Tryz.prog 97 [aTr ps, aInts c, ai k, ai i] (ab B2) := fun h => hSk (of_decide_eq_true (hB1.trans h))
    generalize (enI ps c k).map ai = ys at *
    rw [gi] at gc
    rcases hA.inv with ⟨e1, rfl, rfl⟩ | ⟨b, cap, rfl, rfl⟩
    · repeat (first | ((with_reducible refine AWp.ofC ?_ ?_); (focus exact rfl); simp only [go_sem, hki]) | ((with_reducible refine an ?_ ?_); focus exact Au))
      refine AWp.seq (AWp.block (AWp.seq ?_))
      repeat (first | (with_reducible refine AWp.seq ?_) | (with_reducible refine AWp.block ?_))
      refine AWp.read mixed [0, 1, 2, 3, 4, 5, 6, 7, 8, 9, 10, 11, 12, 13] (by kernel_rfl) ?_; simp only [go_sem]
      repeat ((with_reducible refine an ?_ ?_); focus exact As)
      refine GCall.use (ab B1) (fun _ => ⟨At, (h1).val.use ⟨rfl, rfl⟩⟩) ?_; simp only [go_sem, gc]
      repeat ((with_reducible refine an ?_ ?_); focus exact As)
      refine GCall.use (ab B2) (fun h => ⟨At, (hSk (by simpa using h)).val.use ⟨rfl, rfl⟩⟩) ?_
      simp only [go_sem]
      cases hr : (B1 && B2) with
      | true =>
        rw [hr, if_pos rfl, e1] at hsu
        repeat (first | ((with_reducible refine AWp.ofC ?_ ?_); (focus exact rfl); simp only [go_sem]) | ((with_reducible refine an ?_ ?_); focus exact Au))
        intro b' cap' hc'
        repeat (first | ((with_reducible refine AWp.ofC ?_ ?_); (focus exact rfl); simp only [go_sem]) | ((with_reducible refine an ?_ ?_); focus exact Au))
        exact ⟨_, List.Sublist.refl _, _, rfl, by rw [hsu]; exact .row b' [_] cap'⟩
      | false =>
        rw [hr, if_neg (by decide), e1] at hsu
        repeat (first | ((with_reducible refine AWp.ofC ?_ ?_); (focus exact rfl); simp only [go_sem]) | ((with_reducible refine an ?_ ?_); focus exact Au))
        exact ⟨_, List.Sublist.refl _, _, rfl, by rw [hsu]; exact .nil⟩
    · repeat (first | ((with_reducible refine AWp.ofC ?_ ?_); (focus exact rfl); simp only [go_sem, hki]) | ((with_reducible refine an ?_ ?_); focus exact Au))
      refine AWp.seq (AWp.block (AWp.seq ?_))
      repeat (first | (with_reducible refine AWp.seq ?_) | (with_reducible refine AWp.block ?_))
      refine AWp.read mixed [0, 1, 2, 3, 4, 5, 6, 7, 8, 9, 10, 11, 12, 13] (by kernel_rfl) ?_; simp only [go_sem]
      repeat ((with_reducible refine an ?_ ?_); focus exact As)
      refine GCall.use (ab B1) (fun _ => ⟨At, (h1).val.use ⟨rfl, rfl⟩⟩) ?_; simp only [go_sem, gc]
      repeat ((with_reducible refine an ?_ ?_); focus exact As)
      refine GCall.use (ab B2) (fun h => ⟨At, (hSk (by simpa using h)).val.use ⟨rfl, rfl⟩⟩) ?_
      simp only [go_sem]
      cases hr : (B1 && B2) with
      | true =>
        rw [hr, if_pos rfl] at hsu
        repeat (first | ((with_reducible refine AWp.ofC ?_ ?_); (focus exact rfl); simp only [go_sem]) | ((with_reducible refine an ?_ ?_); focus exact Au))
        intro b' cap' hc'
        repeat (first | ((with_reducible refine AWp.ofC ?_ ?_); (focus exact rfl); simp only [go_sem]) | ((with_reducible refine an ?_ ?_); focus exact Au))
        exact ⟨_, List.Sublist.refl _, _, rfl, by rw [hsu]; exact AppSt.snoc b' cap' _ rfl⟩
      | false =>
        rw [hr, if_neg (by decide)] at hsu
        repeat (first | ((with_reducible refine AWp.ofC ?_ ?_); (focus exact rfl); simp only [go_sem]) | ((with_reducible refine an ?_ ?_); focus exact Au))
        refine ⟨_, List.Sublist.refl _, _, rfl, ?_⟩
        rw [hsu]; simpa using AppSt.row b ys cap
  · have hki : ¬ (k : Int) < (c.length : Int) := by omega
    have : k = c.length := by omega
    subst this
    generalize (enI ps c c.length).map ai = ys at *
    rcases hA.inv with ⟨e1, rfl, rfl⟩ | ⟨b, cap, rfl, rfl⟩
    · repeat (first | ((with_reducible refine AWp.ofC ?_ ?_); (focus exact rfl); simp only [go_sem, hki]) | ((with_reducible refine an ?_ ?_); focus exact Au))
      refine ret_view [] ?_; simp only [go_sem]
      rw [e1]; exact .nil 1
    · repeat (first | ((with_reducible refine AWp.ofC ?_ ?_); (focus exact rfl); simp only [go_sem, hki]) | ((with_reducible refine an ?_ ?_); focus exact Au))
      refine ret_view [true] ?_; simp only [go_sem]
      exact Vw.ofLs (if_pos rfl) rfl
theorem ref12_Lengths (ps : List Pr) (hs : Sm ps) : PC Go.Proofs.Tryz.prog 68 [aTr ps] (aInts (fullC ps)) := by
  have hl := hs.procs
  have hy : ∀ k, k ≤ ps.length → (((ps.take k).map fun x => (x.evs.length : Int)).map ai).length = k := fun k hk => by simp; omega
  have hys : ∀ k (hk : k < ps.length), ((ps.take (k + 1)).map fun x => (x.evs.length : Int)).map ai = ((ps.take k).map fun x => (x.evs.length : Int)).map ai ++ [ai (ps[k].evs.length : Int)] := fun k hk => by
    rw [List.take_add_one, List.getElem?_eq_getElem hk, List.map_append, List.map_append]; rfl
  have hR : aInts (fullC ps) = .sl 1 ((ps.map fun x => (x.evs.length : Int)).map ai) := rfl
  rw [hR]
  refine PC.enter 23 [.tmp 2] [1, 20] Go.Proofs.Tryz.func68 rfl rfl rfl rfl rfl (by simp) (AWp.of ?_); simp only [go_sem]
  repeat (first | ((with_reducible refine AWp.ofC ?_ ?_); (focus exact rfl); simp only [go_sem]) | ((with_reducible refine an ?_ ?_); focus exact Au))
  refine AWp.block (AWp.count 4 ps.length [3] [1] (fun k vs L => ∃ v, vs = [v] ∧ AppSt 3 1 (((ps.take k).map fun x => (x.evs.length : Int)).map ai) v L) rfl rfl ⟨anil, rfl, .nil⟩ ?_)
  rintro k vs L hk - ⟨v, rfl, hA⟩
  have hyl := hy k hk
  have hfo := hA.fo
  simp only [go_sem]
  by_cases hkn : k < ps.length
  · have hki : (k : Int) < ps.length := by omega
    have hgp := getD_map (f := aPr) hkn
    have hel := hs.evs _ (List.getElem_mem hkn)
    have hys := hys k hkn
    generalize hZ : ((ps.take k).map fun x => (x.evs.length : Int)).map ai = ys at *
    rcases hA.inv with ⟨e1, rfl, rfl⟩ | ⟨b, cap, rfl, rfl⟩
    · repeat (first | ((with_reducible refine AWp.ofC ?_ ?_); (focus exact rfl); simp only [go_sem, hki, hgp]) | ((with_reducible refine an ?_ ?_); focus exact Au))
      intro b' cap' _
      repeat (first | ((with_reducible refine AWp.ofC ?_ ?_); (focus exact rfl); simp only [go_sem]) | ((with_reducible refine an ?_ ?_); focus exact Au))
      refine ⟨_, List.Sublist.refl _, _, rfl, ?_⟩
      rw [hys, e1]
      exact .row _ _ _
    · repeat (first | ((with_reducible refine AWp.ofC ?_ ?_); (focus exact rfl); simp only [go_sem, hki, hgp]) | ((with_reducible refine an ?_ ?_); focus exact Au))
      intro b' cap' _
      repeat (first | ((with_reducible refine AWp.ofC ?_ ?_); (focus exact rfl); simp only [go_sem]) | ((with_reducible refine an ?_ ?_); focus exact Au))
      refine ⟨_, List.Sublist.refl _, _, rfl, ?_⟩
      rw [hys]
      exact AppSt.snoc b' cap' _ rfl
  · have hki : ¬ (k : Int) < (ps.length : Int) := by omega
    have : k = ps.length := by omega
    subst this
    rw [List.take_length] at hA
    generalize (ps.map fun x => (x.evs.length : Int)).map ai = ys at *
    rcases hA.inv with ⟨e1, rfl, rfl⟩ | ⟨b, cap, rfl, rfl⟩
    · repeat (first | ((with_reducible refine AWp.ofC ?_ ?_); (focus exact rfl); simp only [go_sem, hki]) | ((with_reducible refine an ?_ ?_); focus exact Au))
      refine ret_view [] ?_; simp only [go_sem]
      rw [e1]; exact .nil 1
    · repeat (first | ((with_reducible refine AWp.ofC ?_ ?_); (focus exact rfl); simp only [go_sem, hki]) | ((with_reducible refine an ?_ ?_); focus exact Au))
      refine ret_view [true] ?_; simp only [go_sem]
      exact Vw.ofLs (if_pos rfl) rfl
end Go.AL
end
section
/- The reference of runs: step, Is, Events. No condition. -/
namespace Go.AL
open Go Go.RowKit
set_option maxRecDepth 4000
theorem chn_iff {ps : List Pr} : ∀ {r : List (List Int)} {a : List Int}, chnF ps a r = true ↔ ∀ j (h : j < r.length), isF ps r[j] = true ∧ 0 ≤ stepF ((a :: r)[j]'(by rw [List.length_cons]; omega)) r[j]
  | [], a => ⟨fun _ j h => absurd h (by simp), fun _ => rfl⟩
  | b :: r, a => by
    have e : chnF ps a (b :: r) = ((isF ps b && decide (0 ≤ stepF a b)) && chnF ps b r) := rfl
    rw [e, Bool.and_eq_true, Bool.and_eq_true, decide_eq_true_eq, chn_iff]
    constructor
    · rintro ⟨h1, h2⟩ j hj
      cases j with
      | zero => exact h1
      | succ j => exact h2 j (by simpa using hj)
    · intro h
      exact ⟨h 0 (by simp), fun j hj => h (j + 1) (by simpa using hj)⟩
end Go.AL
end
section
/- The reference of runs: Events, Of. No condition. -/
namespace Go.AL
open Go Go.RowKit
set_option maxRecDepth 4000
end Go.AL
end
section
/- The reference of runs: Of. No condition. -/
namespace Go.AL
open Go Go.RowKit
set_option maxRecDepth 4000
def ofL (ps : List Pr) (l : List Eid) : List (List Int) := match ofR ps (zeroC ps) l with | none => [] | some R => zeroC ps :: R
end Go.AL
end
section
/- The reference of runs: complete, First, Through. No condition. -/
namespace Go.AL
open Go Go.RowKit
set_option maxRecDepth 4000
theorem valid_off {ps : List Pr} (hv : validF ps = true) : off ps ps.length ≤ 512 := by
  have h : ∀ k, k ≤ ps.length → off ps k ≤ 64 * k := fun k => by
    induction k with
    | zero => intro _; simp [off]
    | succ k ih =>
      intro hk
      have h1 := off_succ (show k < ps.length by omega)
      have h2 := ih (by omega)
      have h3 : ps[k].evs.length ≤ 64 := by
        apply Classical.byContradiction
        intro h4
        exact procF_evs (show k < ps.length by omega) (by omega) (procF_of_valid hv (by omega))
      omega
  have := h ps.length (Nat.le_refl _)
  have := (valid_len hv).2
  omega
def lessB (c to : List Int) (x : Int) : Bool := decide (cAt c x < cAt to x)
theorem enI_first {ps : List Pr} {c to : List Int} (hc : c.length = ps.length) (ht : to.length = ps.length) (hle : leqF c to = true) {q : Nat} (h : firstP ps (fun d => leqF d to) c = some q) : (enI ps c c.length).find? (lessB c to) = some (q : Int) := by
  unfold enI enF
  rw [List.find?_map, List.find?_filter]
  have e : (List.range c.length).find? (fun p => decide (rdyF ps c p = true ∧ (lessB c to ∘ fun (p : Nat) => (p : Int)) p = true)) = firstP ps (fun d => leqF d to) c := by
    unfold firstP
    refine find_congr fun p hp => ?_
    have hp := List.mem_range.1 hp
    have h1 : leqF (stpC c p) to = decide (cAt c p < cAt to p) := by
      cases hd : decide (cAt c p < cAt to p) with
      | true => exact (leq_at (by rw [stp_len]; exact hc) ht).2 (leq_stp hc ((leq_at hc ht).1 hle) ht (of_decide_eq_true hd))
      | false =>
        cases hl : leqF (stpC c p) to with
        | false => rfl
        | true =>
          have := (leq_at (by rw [stp_len]; exact hc) ht).1 hl p (by omega)
          rw [cAt_stp hp, if_pos rfl] at this
          have h2 := of_decide_eq_false hd
          omega
    show decide (rdyF ps c p = true ∧ lessB c to p = true) = (rdyF ps c p && leqF (stpC c p) to)
    rw [h1, Bool.decide_and, Bool.decide_eq_true, Bool.decide_eq_true]; rfl
  first | rw [e, h]; rfl | (have e2 := e; simp only [Function.comp_def] at e2 ⊢; rw [e2, h]; rfl)
theorem find_drop {f : Int → Bool} {l : List Int} {i : Nat} (hi : i < l.length) : (l.drop i).find? f = if f l[i] = true then some l[i] else (l.drop (i + 1)).find? f := by
  rw [← List.getElem_cons_drop hi, List.find?_cons]
  cases f l[i] <;> rfl
set_option maxHeartbeats 1000000 in
theorem ref24_complete (ps : List Pr) (hs : Sm ps) (hv : validF ps = true) (c to : List Int) (hc : isF ps c = true) (ht : isF ps to = true) (hle : leqF c to = true) (O : List (List Int)) (hO : O.getLast? = some c) (hOl : O.length ≤ 1000) (R : List (List Int))
    (hR : wlkR ps (fun d => leqF d to) (to.sum - c.sum).toNat c = some R) (hRl : R.length ≤ 1000) (b cap : Nat) :
    MCalls Go.Proofs.Tryz.prog 73 [aTr ps, .ls b 1 0 O.length cap, aInts to] [(b, .row 42 1 (O.map aInts) cap)] fun r L => ∃ b' cap', r = .ls b' 1 0 (O ++ R).length cap' ∧ L = [(b', .row 42 1 ((O ++ R).map aInts) cap')] := by
  have hO0 : 0 < O.length := by
    cases O with
    | nil => cases hO
    | cons a l => simp
  have hgl : (O.map aInts).getD (O.length - 1) .any = aInts c := by
    rw [List.getLast?_eq_getElem?] at hO
    rw [List.getD_eq_getElem?_getD, List.getElem?_map, hO]; rfl
  have hix : ((O.length : Int) - 1).toNat = O.length - 1 := by omega
  have hOm : (O.map aInts).length = O.length := List.length_map _
  have hen := fun d hd => ref22_Enabled ps hs hv d hd
  have htl := (isF_iff.1 ht).1
  have htb := isF_cb hs ht
  have hsu := (leq_sum hle).1
  refine MCalls.enter' 58 [.tmp 6] [3, 55] Go.Proofs.Tryz.func73 rfl rfl rfl rfl rfl (by simp) (AWp.of ?_); simp only [go_sem]
  repeat (first | ((with_reducible refine AWp.ofC ?_ ?_); (focus exact rfl); simp only [go_sem, hgl, hix, hOm]) | ((with_reducible refine an ?_ ?_); focus exact Au))
  repeat ((with_reducible refine an ?_ ?_); focus exact As)
  refine AWp.seq (AWp.block (AWp.loopN [1, 7] [2, 3] (fun m vs L => ∃ (d : List Int) (P R' : List (List Int)) (b' cap' : Nat), vs = [.ls b' 1 0 P.length cap', aInts d] ∧ isF ps d = true ∧ leqF d to = true ∧ d.sum + m = to.sum ∧ wlkR ps (fun d => leqF d to) m d = some R' ∧ O ++ R = P ++ R' ∧ L = [(b', .row 42 1 (P.map aInts) cap')]) (to.sum - c.sum).toNat ?_ ?_))
  · exact ⟨c, O, R, b, cap, rfl, hc, hle, by omega, hR, rfl, rfl⟩
  rintro m vs L - ⟨d, P, R', b', cap', rfl, hd, hdl, hds, hw, hPR, rfl⟩
  have hdc := (isF_iff.1 hd).1
  have hdb := isF_cb hs hd
  have heq := ref24_same d to hdb.1
  have hPl : (P ++ R').length ≤ 2000 := by rw [← hPR, List.length_append]; omega
  rw [List.length_append] at hPl
  cases m with
  | zero =>
    have hdt : d = to := (leq_sum hdl).2 (by omega)
    rw [decide_eq_true hdt] at heq
    have : R' = [] := (Option.some.inj hw).symm
    subst this
    rw [List.append_nil] at hPR
    rw [hPR]
    simp only [go_sem]
    repeat (first | ((with_reducible refine AWp.ofC ?_ ?_); (focus exact rfl); simp only [go_sem]) | ((with_reducible refine an ?_ ?_); focus exact Au))
    repeat ((with_reducible refine an ?_ ?_); focus exact As)
    refine (heq).val.use ?_; simp only [go_sem]
    repeat (first | ((with_reducible refine AWp.ofC ?_ ?_); (focus exact rfl); simp only [go_sem]) | ((with_reducible refine an ?_ ?_); focus exact Au))
    refine ret_own ?_
    simp only [go_sem]
    exact ⟨b', cap', rfl, rfl⟩
  | succ m =>
    have hdt : ¬ d = to := fun e => by rw [e] at hds; omega
    rw [decide_eq_false hdt] at heq
    obtain ⟨q, hq, hqp, hqF, hqle⟩ := first_to hv hd ht hdl (by omega)
    rw [wlkR_succ, hq] at hw
    simp only at hw
    obtain ⟨R2, hw2, rfl⟩ : ∃ R2, wlkR ps (fun d => leqF d to) m (stpC d q) = some R2 ∧ R' = stpC d q :: R2 := by
      cases hx : wlkR ps (fun d => leqF d to) m (stpC d q) with
      | none => rw [hx] at hw; cases hw
      | some R2 => rw [hx] at hw; exact ⟨R2, rfl, (Option.some.inj hw).symm⟩
    have hfi := enI_first hdc htl hdl hq
    have hel := enI_len ps d d.length
    have hene := hen d hd
    have hemem : ∀ i (hi : i < (enI ps d d.length).length), ∃ p : Nat, (enI ps d d.length)[i] = p ∧ p < d.length := fun i hi => by
      have h1 := List.getElem_mem hi
      generalize (enI ps d d.length)[i] = z at *
      unfold enI at h1
      obtain ⟨p, hp, rfl⟩ := List.mem_map.1 h1
      exact ⟨p, rfl, (mem_enF.1 hp).1⟩
    have hWi := ref22_With d hdb q (by omega)
    have hsp : (stpC d q).sum = d.sum + 1 := sum_stpC (by omega)
    generalize enI ps d d.length = E at *
    have hd8 := (valid_len hv).2
    simp only [go_sem]
    repeat (first | ((with_reducible refine AWp.ofC ?_ ?_); (focus exact rfl); simp only [go_sem]) | ((with_reducible refine an ?_ ?_); focus exact Au))
    repeat ((with_reducible refine an ?_ ?_); focus exact As)
    refine (heq).val.use ?_; simp only [go_sem]
    repeat (first | ((with_reducible refine AWp.ofC ?_ ?_); (focus exact rfl); simp only [go_sem]) | ((with_reducible refine an ?_ ?_); focus exact Au))
    repeat ((with_reducible refine an ?_ ?_); focus exact As)
    refine (hene).val.use ?_; simp only [go_sem]
    repeat (first | ((with_reducible refine AWp.ofC ?_ ?_); (focus exact rfl); simp only [go_sem]) | ((with_reducible refine an ?_ ?_); focus exact Au))
    have hEi : ((E.length : Nat) : Int) - 1 = ((E.length : Nat) : Int) - 1 := rfl
    refine AWp.block (AWp.loopN [9, 10] [1, 2, 3, 7, 8] (fun k vs L => k ≤ E.length ∧ vs = [ai (((E.drop k).find? (lessB d to)).getD (-1)), ai ((k : Int) - 1)] ∧ L = [(b', .row 42 1 (P.map aInts) cap')]) E.length ⟨Nat.le_refl _, by rw [List.drop_length]; rfl, rfl⟩ ?_)
    rintro k vs L - ⟨hk, rfl, rfl⟩
    cases k with
    | zero =>
      have z : ¬ (0 : Int) ≤ ((0 : Nat) : Int) - 1 := by omega
      rw [List.drop_zero, hfi, Option.getD_some]
      simp only [go_sem]
      repeat (first | ((with_reducible refine AWp.ofC ?_ ?_); (focus exact rfl); simp only [go_sem, z]) | ((with_reducible refine an ?_ ?_); focus exact Au))
      repeat ((with_reducible refine an ?_ ?_); focus exact As)
      refine (hWi).val.use ?_; simp only [go_sem]
      repeat (first | ((with_reducible refine AWp.ofC ?_ ?_); (focus exact rfl); simp only [go_sem]) | ((with_reducible refine an ?_ ?_); focus exact Au))
      intro b2 cap2 hc2
      repeat (first | ((with_reducible refine AWp.ofC ?_ ?_); (focus exact rfl); simp only [go_sem]) | ((with_reducible refine an ?_ ?_); focus exact Au))
      have e : (P ++ [stpC d q]).map aInts = P.map aInts ++ [.sl 1 ((stpC d q).map ai)] := by rw [List.map_append]; rfl
      refine ⟨_, List.Sublist.refl _, m, by omega, stpC d q, P ++ [stpC d q], R2, b2, cap2, by rw [List.length_append]; rfl, hqF, hqle, by omega, hw2, by rw [hPR]; simp, by rw [e]⟩
    | succ k =>
      have z : (0 : Int) ≤ (k : Int) := by omega
      have z1 : ((k + 1 : Nat) : Int) - 1 = (k : Int) := by omega
      have hkE : k < E.length := by omega
      have g1 := getD_map (f := ai) hkE
      obtain ⟨p, hpE, hpd⟩ := hemem k hkE
      rw [hpE] at g1
      have g2 := getD_map (f := ai) hpd
      have g3 := getD_map (f := ai) (l := to) (k := p) (by omega)
      have hdr := find_drop (f := lessB d to) hkE
      have hlb : lessB d to E[k] = decide (d[p] < to[p]'(by omega)) := by unfold lessB; rw [hpE, cAt_nat hpd, cAt_nat (show p < to.length by omega)]
      rw [hlb, hpE] at hdr
      rw [z1]
      generalize (E.drop (k + 1)).find? (lessB d to) = fo1 at *
      simp only [go_sem]
      repeat (first | ((with_reducible refine AWp.ofC ?_ ?_); (focus exact rfl); simp only [go_sem, z]) | ((with_reducible refine an ?_ ?_); focus exact Au))
      repeat (first | (with_reducible refine AWp.seq ?_) | (with_reducible refine AWp.block ?_))
      refine AWp.read mixed [0, 1, 2, 3, 4, 5, 6, 7, 8, 9, 10, 11, 12, 13, 14] (by kernel_rfl) ?_; simp only [go_sem, g1, g2, g3]
      repeat ((with_reducible refine an ?_ ?_); focus exact As)
      repeat (first | ((with_reducible refine AWp.ofC ?_ ?_); (focus exact rfl); simp only [go_sem, g1]) | ((with_reducible refine an ?_ ?_); focus exact Au))
      refine ⟨fun h1 => ?_, fun h1 => ?_⟩
      · rw [decide_eq_true h1, if_pos rfl] at hdr
        repeat (first | ((with_reducible refine AWp.ofC ?_ ?_); (focus exact rfl); simp only [go_sem]) | ((with_reducible refine an ?_ ?_); focus exact Au))
        exact ⟨_, List.Sublist.refl _, k, by omega, by omega, by rw [hdr]; rfl, rfl⟩
      · rw [decide_eq_false h1, if_neg (by decide)] at hdr
        repeat (first | ((with_reducible refine AWp.ofC ?_ ?_); (focus exact rfl); simp only [go_sem]) | ((with_reducible refine an ?_ ?_); focus exact Au))
        exact ⟨_, List.Sublist.refl _, k, by omega, by omega, by rw [hdr], rfl⟩
theorem wlk_true {ps : List Pr} {n : Nat} {c : List Int} (hc : isF ps c = true) : wlkR ps (fun _ => true) n c = wlkR ps (fun d => leqF d (fullC ps)) n c := wlk_up hc (fun _ _ _ => rfl) n c hc (leq_refl c)
theorem ref24_First (ps : List Pr) (hs : Sm ps) (hv : validF ps = true) : PC Go.Proofs.Tryz.prog 25 [aTr ps] (aRows (wlkF ps fun _ => true)) := by
  have hLe := ref12_Lengths ps hs
  have hl8 := (valid_len hv).2
  have hof := off_small hs ps.length (Nat.le_refl _)
  have hzs : (zeroC ps).sum = 0 := by unfold zeroC; simp
  have hfs := fullC_sum ps
  have hfi := fullC_is hv
  obtain ⟨R, hR, hRl, -⟩ := wlk_to hv hfi (off ps ps.length) (zeroC ps) (zeroC_is ps) (leq_full (zeroC_is ps)) (by omega)
  have hn : ((fullC ps).sum - (zeroC ps).sum).toNat = off ps ps.length := by omega
  have hof5 := valid_off hv
  have hcm := ref24_complete ps hs hv (zeroC ps) (fullC ps) (zeroC_is ps) hfi (leq_full (zeroC_is ps)) [zeroC ps] rfl (by simp) R (by rw [hn]; exact hR) (by omega)
  have hW : wlkF ps (fun _ => true) = [zeroC ps] ++ R := by
    unfold wlkF
    rw [wlk_true (zeroC_is ps), hR]; rfl
  have hrep : List.replicate ps.length (AV.v (.int .i64 0)) = (zeroC ps).map ai := by unfold zeroC; rw [List.map_replicate]
  rw [hW]
  generalize [zeroC ps] ++ R = X at *
  refine PC.enter 12 [.tmp 2] [1, 7] Go.Proofs.Tryz.func25 rfl rfl rfl rfl rfl (by simp) (AWp.of ?_); simp only [go_sem]
  repeat (first | ((with_reducible refine AWp.ofC ?_ ?_); (focus exact rfl); simp only [go_sem]) | ((with_reducible refine an ?_ ?_); focus exact Au))
  repeat (first | (with_reducible refine AWp.seq ?_) | (with_reducible refine AWp.block ?_))
  refine AWp.mix mixed [0, 1, 2, 3, 6, 7] (.step 4 (.step 5 (.step 8 (.step 9 .done .done) .done) .done) .done) (by kernel_rfl) ?_; simp only [go_sem]
  repeat ((with_reducible refine an ?_ ?_); focus exact As)
  refine GCall.use (aInts (fullC ps)) (fun _ => ⟨At, (hLe).val.use ⟨rfl, rfl⟩⟩) ?_; simp only [go_sem, hrep]
  repeat ((with_reducible refine an ?_ ?_); focus exact As)
  intro b8
  refine (hcm b8 1).val.mono ?_
  rintro r L ⟨b', cap', rfl, rfl⟩
  simp only [go_sem]
  repeat (first | ((with_reducible refine AWp.ofC ?_ ?_); (focus exact rfl); simp only [go_sem]) | ((with_reducible refine an ?_ ?_); focus exact Au))
  refine ret_view [true] ?_; simp only [go_sem]
  exact Vw.ofLs (if_pos rfl) (by rw [List.length_map])
theorem ref24_Through (ps : List Pr) (hs : Sm ps) (hv : validF ps = true) (c : List Int) (hc : isF ps c = true) : PC Go.Proofs.Tryz.prog 26 [aTr ps, aInts c] (aRows (wlkF ps fun d => leqF d c || leqF c d)) := by
  have hLe := ref12_Lengths ps hs
  have hl8 := (valid_len hv).2
  have hzs : (zeroC ps).sum = 0 := by unfold zeroC; simp
  have hfs := fullC_sum ps
  have hfi := fullC_is hv
  have hcs := sum_nonneg c (isF_nonneg hc)
  have hcf := (leq_sum (leq_full hc)).1
  rw [hfs] at hcf
  have hof5 := valid_off hv
  have hz : leqF (zeroC ps) c = true := (leq_at (by simp [zeroC]) (isF_iff.1 hc).1).2 fun q hq => by
    have h1 := ((inRange_iff (isF_iff.1 hc).1).1 (isF_iff.1 hc).2.1 q hq).1
    have h2 : cAt (zeroC ps) q = 0 := by rw [cAt_nat (show q < (zeroC ps).length by simp [zeroC]; omega)]; simp [zeroC]
    rw [h2]; exact h1
  obtain ⟨R1, hR1, hRl1, -, hlast⟩ := wlk_to hv hc c.sum.toNat (zeroC ps) (zeroC_is ps) hz (by omega)
  obtain ⟨R2, hR2, hRl2, -⟩ := wlk_to hv hfi (off ps ps.length - c.sum.toNat) c hc (leq_full hc) (by omega)
  have hn1 : (c.sum - (zeroC ps).sum).toNat = c.sum.toNat := by omega
  have hn2 : ((fullC ps).sum - c.sum).toNat = off ps ps.length - c.sum.toNat := by omega
  have hcm1 := ref24_complete ps hs hv (zeroC ps) c (zeroC_is ps) hc hz [zeroC ps] rfl (by simp) R1 (by rw [hn1]; exact hR1) (by omega)
  have hcm2 := ref24_complete ps hs hv c (fullC ps) hc hfi (leq_full hc) ([zeroC ps] ++ R1) hlast (by rw [List.length_append]; simp; omega) R2 (by rw [hn2]; exact hR2) (by omega)
  have hW : wlkF ps (fun d => leqF d c || leqF c d) = ([zeroC ps] ++ R1) ++ R2 := by
    unfold wlkF
    have h := wlk_thr hv hc (off ps ps.length - c.sum.toNat) c.sum.toNat (zeroC ps) (zeroC_is ps) hz (by omega) R1 hR1
    rw [show c.sum.toNat + (off ps ps.length - c.sum.toNat) = off ps ps.length by omega] at h
    rw [h, hR2]; rfl
  have hrep : List.replicate ps.length (AV.v (.int .i64 0)) = (zeroC ps).map ai := by unfold zeroC; rw [List.map_replicate]
  rw [hW]
  generalize hX : [zeroC ps] ++ R1 = X at *
  generalize X ++ R2 = Y at *
  refine PC.enter 17 [.tmp 4] [2, 10] Go.Proofs.Tryz.func26 rfl rfl rfl rfl rfl (by simp) (AWp.of ?_); simp only [go_sem]
  repeat (first | ((with_reducible refine AWp.ofC ?_ ?_); (focus exact rfl); simp only [go_sem]) | ((with_reducible refine an ?_ ?_); focus exact Au))
  repeat (first | (with_reducible refine AWp.seq ?_) | (with_reducible refine AWp.block ?_))
  refine AWp.mix mixed [0, 1, 2, 3, 4, 7, 9, 10] (.step 5 (.step 6 (.step 8 (.step 11 (.step 12 .done .done) .done) .done) .done) .done) (by kernel_rfl) ?_; simp only [go_sem]
  repeat ((with_reducible refine an ?_ ?_); focus exact As)
  refine GCall.use (aInts (fullC ps)) (fun _ => ⟨At, (hLe).val.use ⟨rfl, rfl⟩⟩) ?_; simp only [go_sem, hrep]
  repeat ((with_reducible refine an ?_ ?_); focus exact As)
  intro b11
  refine (hcm1 b11 1).val.mono ?_
  rintro r L ⟨b', cap', rfl, rfl⟩
  simp only [go_sem]
  refine (hcm2 b' cap').val.mono ?_
  rintro r L ⟨b2, cap2, rfl, rfl⟩
  simp only [go_sem]
  repeat (first | ((with_reducible refine AWp.ofC ?_ ?_); (focus exact rfl); simp only [go_sem]) | ((with_reducible refine an ?_ ?_); focus exact Au))
  refine ret_view [true] ?_; simp only [go_sem]
  exact Vw.ofLs (if_pos rfl) (by rw [List.length_map])
end Go.AL
end
section
/- Runs of traces that are not valid, however large; the law RunLeast. No condition. -/
namespace Go.AL
open Go Go.RowKit
set_option maxRecDepth 4000
section
variable {ps : List Pr} (hva : PC Go.Proofs.Tryz.prog 45 [aTr ps] (ab false))
include hva
theorem run_First_bad : PC Go.Proofs.Tryz.prog 23 [aTr ps] (.tup [aRows [], ai 1]) := by
  refine PC.enter 10 [.tmp 2, .tmp 3] [1] Go.Proofs.Tryz.func23 rfl rfl rfl rfl rfl (by simp) (AWp.of ?_); simp only [go_sem]
  repeat (first | ((with_reducible refine AWp.ofC ?_ ?_); (focus exact rfl); simp only [go_sem]) | ((with_reducible refine an ?_ ?_); focus exact Au))
  repeat ((with_reducible refine an ?_ ?_); focus exact As)
  refine (hva).val.use ?_; simp only [go_sem]
  repeat (first | ((with_reducible refine AWp.ofC ?_ ?_); (focus exact rfl); simp only [go_sem]) | ((with_reducible refine an ?_ ?_); focus exact Au))
  refine ret_view [] ?_; simp only [go_sem]
  exact .mkTup (Vws.cons (.nil 1) (Vws.refl _))
theorem run_Through_bad (c : List Int) : PC Go.Proofs.Tryz.prog 24 [aTr ps, aInts c] (.tup [aRows [], ai 1]) := by
  refine PC.enter 19 [.tmp 4, .tmp 5] [2, 3] Go.Proofs.Tryz.func24 rfl rfl rfl rfl rfl (by simp) (AWp.of ?_); simp only [go_sem]
  repeat (first | ((with_reducible refine AWp.ofC ?_ ?_); (focus exact rfl); simp only [go_sem]) | ((with_reducible refine an ?_ ?_); focus exact Au))
  repeat ((with_reducible refine an ?_ ?_); focus exact As)
  refine (hva).val.use ?_; simp only [go_sem]
  repeat (first | ((with_reducible refine AWp.ofC ?_ ?_); (focus exact rfl); simp only [go_sem]) | ((with_reducible refine an ?_ ?_); focus exact Au))
  refine ret_view [] ?_; simp only [go_sem]
  exact .mkTup (Vws.cons (.nil 1) (Vws.refl _))
end
/-- What is known of a trace that the laws' bounds let pass. -/
structure Vd (ps : List Pr) : Prop where
  val : PC Go.Proofs.Tryz.prog 45 [aTr ps] (ab (validF ps))
  rval : PC Go.Proofs.Tryz.prog 12 [aTr ps] (ab (validF ps))
  sm : validF ps = true → Sm ps
  big : Sm ps ∨ validF ps = false
theorem vd_of {ps : List Pr} {m : Int} (h : smF ps m = true) : Vd ps := by
  rcases smF_cases h with h | ⟨h, hb⟩
  · exact ⟨trace_Valid ps h, ref12_Valid ps h, fun _ => h, .inl h⟩
  · exact ⟨trace_ValidB ps h hb, ref12_ValidB ps h hb, fun hv => absurd hv (by rw [valid_bad hb]; simp), .inr (valid_bad hb)⟩
set_option maxHeartbeats 1000000 in
theorem law24_RunLeast (ps : List Pr) (c : List Int) (hev : ∀ p ∈ ps, p.evs.length ≤ 9223372036854775807) : PC Go.Proofs.Tryz.prog 5 [aTr ps, aInts c] (ab true) := by
  have haw := law24_awake
  have hsm := law24_small ps hev 60
  have haR : ∀ x : List (List Int), aRows x = .sl 1 (x.map aInts) := fun _ => rfl
  cases hsf : smF ps 60 with
  | false =>
    rw [hsf] at hsm
    refine PC.enter 78 [.tmp 4] [2] Go.Proofs.Tryz.func5 rfl rfl rfl rfl rfl (by simp) (AWp.of ?_); simp only [go_sem]
    repeat (first | ((with_reducible refine AWp.ofC ?_ ?_); (focus exact rfl); simp only [go_sem]) | ((with_reducible refine an ?_ ?_); focus exact Au))
    repeat ((with_reducible refine an ?_ ?_); focus exact As)
    refine (haw).val.use ?_; simp only [go_sem]
    repeat (first | ((with_reducible refine AWp.ofC ?_ ?_); (focus exact rfl); simp only [go_sem]) | ((with_reducible refine an ?_ ?_); focus exact Au))
    repeat ((with_reducible refine an ?_ ?_); focus exact As)
    refine (hsm).val.use ?_; simp only [go_sem]
    repeat (first | ((with_reducible refine AWp.ofC ?_ ?_); (focus exact rfl); simp only [go_sem]) | ((with_reducible refine an ?_ ?_); focus exact Au))
    refine ret_eq ?_; simp only [go_sem]
  | true =>
    rw [hsf] at hsm
    have hvd := vd_of hsf
    by_cases hcl : 20 < c.length
    · have hci : (20 : Int) < (c.length : Int) := by omega
      refine PC.enter 78 [.tmp 4] [2] Go.Proofs.Tryz.func5 rfl rfl rfl rfl rfl (by simp) (AWp.of ?_); simp only [go_sem]
      repeat (first | ((with_reducible refine AWp.ofC ?_ ?_); (focus exact rfl); simp only [go_sem]) | ((with_reducible refine an ?_ ?_); focus exact Au))
      repeat ((with_reducible refine an ?_ ?_); focus exact As)
      refine (haw).val.use ?_; simp only [go_sem]
      repeat (first | ((with_reducible refine AWp.ofC ?_ ?_); (focus exact rfl); simp only [go_sem]) | ((with_reducible refine an ?_ ?_); focus exact Au))
      repeat ((with_reducible refine an ?_ ?_); focus exact As)
      refine (hsm).val.use ?_; simp only [go_sem, hci]
      repeat (first | ((with_reducible refine AWp.ofC ?_ ?_); (focus exact rfl); simp only [go_sem]) | ((with_reducible refine an ?_ ?_); focus exact Au))
      refine ret_eq ?_; simp only [go_sem]
    · have hci : ¬ (20 : Int) < (c.length : Int) := by omega
      have z0 : ((0 : Nat) : Int) = 0 := rfl
      cases hv : validF ps with
      | false =>
        have hva := hvd.val
        have hrv := hvd.rval
        rw [hv] at hva hrv
        have h1 := run_First_bad hva
        have h2 := run_Through_bad hva c
        rw [haR] at h1 h2
        refine PC.enter 78 [.tmp 4] [2] Go.Proofs.Tryz.func5 rfl rfl rfl rfl rfl (by simp) (AWp.of ?_); simp only [go_sem]
        repeat (first | ((with_reducible refine AWp.ofC ?_ ?_); (focus exact rfl); simp only [go_sem]) | ((with_reducible refine an ?_ ?_); focus exact Au))
        repeat ((with_reducible refine an ?_ ?_); focus exact As)
        refine (haw).val.use ?_; simp only [go_sem]
        repeat (first | ((with_reducible refine AWp.ofC ?_ ?_); (focus exact rfl); simp only [go_sem]) | ((with_reducible refine an ?_ ?_); focus exact Au))
        repeat ((with_reducible refine an ?_ ?_); focus exact As)
        refine (hsm).val.use ?_; simp only [go_sem, hci]
        repeat (first | ((with_reducible refine AWp.ofC ?_ ?_); (focus exact rfl); simp only [go_sem]) | ((with_reducible refine an ?_ ?_); focus exact Au))
        repeat ((with_reducible refine an ?_ ?_); focus exact As)
        refine (h1).val.use ?_; simp only [go_sem]
        repeat (first | ((with_reducible refine AWp.ofC ?_ ?_); (focus exact rfl); simp only [go_sem]) | ((with_reducible refine an ?_ ?_); focus exact Au))
        repeat ((with_reducible refine an ?_ ?_); focus exact As)
        refine (h2).val.use ?_; simp only [go_sem]
        repeat (first | ((with_reducible refine AWp.ofC ?_ ?_); (focus exact rfl); simp only [go_sem]) | ((with_reducible refine an ?_ ?_); focus exact Au))
        repeat ((with_reducible refine an ?_ ?_); focus exact As)
        refine (hrv).val.use ?_; simp only [go_sem]
        repeat (first | ((with_reducible refine AWp.ofC ?_ ?_); (focus exact rfl); simp only [go_sem, z0]) | ((with_reducible refine an ?_ ?_); focus exact Au))
        refine ret_eq ?_; simp only [go_sem]
      | true =>
        have hs := hvd.sm hv
        have hrv := hvd.rval
        rw [hv] at hrv
        have h1 := run_First ps hs
        have h2 := run_Through ps hs c
        have e1 : vldE ps = 0 := by unfold vldE; rw [hv]; rfl
        have e2 : frsF ps = wlkF ps (fun _ => true) := by unfold frsF; rw [hv]; rfl
        rw [e1, e2] at h1
        have h3 := ref24_First ps hs hv
        have hI := ref23_Is ps hs (valid_len hv).1 c
        have hlen : ∀ perm, (wlkF ps perm).length ≤ 1000000 ∧ ∀ x ∈ wlkF ps perm, x.length ≤ 1000000 := fun perm => by
          unfold wlkF
          cases hw : wlkR ps perm (off ps ps.length) (zeroC ps) with
          | none => exact ⟨by simp, fun x hx => by cases hx⟩
          | some R =>
            obtain ⟨hch, hRl⟩ := wlk_chn (zeroC_is ps) hw
            have ho := valid_off hv
            have h8 := (valid_len hv).2
            refine ⟨by rw [List.length_cons]; omega, fun x hx => ?_⟩
            rcases List.mem_cons.1 hx with rfl | hx
            · simp [zeroC]; omega
            · obtain ⟨j, hj, rfl⟩ := List.getElem_of_mem hx
              have := (isF_iff.1 (chn_iff.1 hch j hj).1).1
              omega
        have h4 := ref24_Same (wlkF ps fun _ => true) (wlkF ps fun _ => true) (hlen _).1 (hlen _).2
        rw [decide_eq_true rfl] at h4
        cases hc : isF ps c with
        | false =>
          rw [hc] at hI
          have e3 : thrE ps c = 18 := by unfold thrE; rw [hv, hc]; rfl
          have e4 : thrF ps c = [] := by unfold thrF; rw [e3]; rfl
          rw [e3, e4] at h2
          rw [haR] at *
          generalize (wlkF ps fun _ => true).map aInts = X at *
          refine PC.enter 78 [.tmp 4] [2] Go.Proofs.Tryz.func5 rfl rfl rfl rfl rfl (by simp) (AWp.of ?_); simp only [go_sem]
          repeat (first | ((with_reducible refine AWp.ofC ?_ ?_); (focus exact rfl); simp only [go_sem]) | ((with_reducible refine an ?_ ?_); focus exact Au))
          repeat ((with_reducible refine an ?_ ?_); focus exact As)
          refine (haw).val.use ?_; simp only [go_sem]
          repeat (first | ((with_reducible refine AWp.ofC ?_ ?_); (focus exact rfl); simp only [go_sem]) | ((with_reducible refine an ?_ ?_); focus exact Au))
          repeat ((with_reducible refine an ?_ ?_); focus exact As)
          refine (hsm).val.use ?_; simp only [go_sem, hci]
          repeat (first | ((with_reducible refine AWp.ofC ?_ ?_); (focus exact rfl); simp only [go_sem]) | ((with_reducible refine an ?_ ?_); focus exact Au))
          repeat ((with_reducible refine an ?_ ?_); focus exact As)
          refine (h1).val.use ?_; simp only [go_sem]
          repeat (first | ((with_reducible refine AWp.ofC ?_ ?_); (focus exact rfl); simp only [go_sem]) | ((with_reducible refine an ?_ ?_); focus exact Au))
          repeat ((with_reducible refine an ?_ ?_); focus exact As)
          refine (h2).val.use ?_; simp only [go_sem]
          repeat (first | ((with_reducible refine AWp.ofC ?_ ?_); (focus exact rfl); simp only [go_sem]) | ((with_reducible refine an ?_ ?_); focus exact Au))
          repeat ((with_reducible refine an ?_ ?_); focus exact As)
          refine (hrv).val.use ?_; simp only [go_sem]
          repeat (first | ((with_reducible refine AWp.ofC ?_ ?_); (focus exact rfl); simp only [go_sem]) | ((with_reducible refine an ?_ ?_); focus exact Au))
          repeat ((with_reducible refine an ?_ ?_); focus exact As)
          refine GCall.use (.sl 1 X) (fun _ => ⟨At, (h3).val.use ⟨rfl, rfl⟩⟩) ?_; simp only [go_sem]
          repeat ((with_reducible refine an ?_ ?_); focus exact As)
          refine GCall.use (ab true) (fun _ => ⟨At, (h4).val.use ⟨rfl, rfl⟩⟩) ?_; simp only [go_sem]
          repeat (first | ((with_reducible refine AWp.ofC ?_ ?_); (focus exact rfl); simp only [go_sem]) | ((with_reducible refine an ?_ ?_); focus exact Au))
          repeat ((with_reducible refine an ?_ ?_); focus exact As)
          refine (hI).val.use ?_; simp only [go_sem]
          repeat (first | ((with_reducible refine AWp.ofC ?_ ?_); (focus exact rfl); simp only [go_sem, z0]) | ((with_reducible refine an ?_ ?_); focus exact Au))
          refine ret_eq ?_; simp only [go_sem]
        | true =>
          rw [hc] at hI
          have e3 : thrE ps c = 0 := by unfold thrE; rw [hv, hc]; rfl
          have e4 : thrF ps c = wlkF ps (fun d => leqF d c || leqF c d) := by unfold thrF; rw [e3]; rfl
          rw [e3, e4] at h2
          have h5 := ref24_Through ps hs hv c hc
          have h6 := ref24_Same (wlkF ps fun d => leqF d c || leqF c d) (wlkF ps fun d => leqF d c || leqF c d) (hlen _).1 (hlen _).2
          rw [decide_eq_true rfl] at h6
          rw [haR] at *
          generalize (wlkF ps fun _ => true).map aInts = X at *
          generalize (wlkF ps fun d => leqF d c || leqF c d).map aInts = Y at *
          refine PC.enter 78 [.tmp 4] [2] Go.Proofs.Tryz.func5 rfl rfl rfl rfl rfl (by simp) (AWp.of ?_); simp only [go_sem]
          repeat (first | ((with_reducible refine AWp.ofC ?_ ?_); (focus exact rfl); simp only [go_sem]) | ((with_reducible refine an ?_ ?_); focus exact Au))
          repeat ((with_reducible refine an ?_ ?_); focus exact As)
          refine (haw).val.use ?_; simp only [go_sem]
          repeat (first | ((with_reducible refine AWp.ofC ?_ ?_); (focus exact rfl); simp only [go_sem]) | ((with_reducible refine an ?_ ?_); focus exact Au))
          repeat ((with_reducible refine an ?_ ?_); focus exact As)
          refine (hsm).val.use ?_; simp only [go_sem, hci]
          repeat (first | ((with_reducible refine AWp.ofC ?_ ?_); (focus exact rfl); simp only [go_sem]) | ((with_reducible refine an ?_ ?_); focus exact Au))
          repeat ((with_reducible refine an ?_ ?_); focus exact As)
          refine (h1).val.use ?_; simp only [go_sem]
          repeat (first | ((with_reducible refine AWp.ofC ?_ ?_); (focus exact rfl); simp only [go_sem]) | ((with_reducible refine an ?_ ?_); focus exact Au))
          repeat ((with_reducible refine an ?_ ?_); focus exact As)
          refine (h2).val.use ?_; simp only [go_sem]
          repeat (first | ((with_reducible refine AWp.ofC ?_ ?_); (focus exact rfl); simp only [go_sem]) | ((with_reducible refine an ?_ ?_); focus exact Au))
          repeat ((with_reducible refine an ?_ ?_); focus exact As)
          refine (hrv).val.use ?_; simp only [go_sem]
          repeat (first | ((with_reducible refine AWp.ofC ?_ ?_); (focus exact rfl); simp only [go_sem]) | ((with_reducible refine an ?_ ?_); focus exact Au))
          repeat ((with_reducible refine an ?_ ?_); focus exact As)
          refine GCall.use (.sl 1 X) (fun _ => ⟨At, (h3).val.use ⟨rfl, rfl⟩⟩) ?_; simp only [go_sem]
          repeat ((with_reducible refine an ?_ ?_); focus exact As)
          refine GCall.use (ab true) (fun _ => ⟨At, (h4).val.use ⟨rfl, rfl⟩⟩) ?_; simp only [go_sem]
          repeat (first | ((with_reducible refine AWp.ofC ?_ ?_); (focus exact rfl); simp only [go_sem]) | ((with_reducible refine an ?_ ?_); focus exact Au))
          repeat ((with_reducible refine an ?_ ?_); focus exact As)
          refine (hI).val.use ?_; simp only [go_sem]
          repeat (first | ((with_reducible refine AWp.ofC ?_ ?_); (focus exact rfl); simp only [go_sem]) | ((with_reducible refine an ?_ ?_); focus exact Au))
          repeat ((with_reducible refine an ?_ ?_); focus exact As)
          refine GCall.use (.sl 1 Y) (fun _ => ⟨At, (h5).val.use ⟨rfl, rfl⟩⟩) ?_; simp only [go_sem]
          repeat ((with_reducible refine an ?_ ?_); focus exact As)
          refine GCall.use (ab true) (fun _ => ⟨At, (h6).val.use ⟨rfl, rfl⟩⟩) ?_; simp only [go_sem]
          repeat (first | ((with_reducible refine AWp.ofC ?_ ?_); (focus exact rfl); simp only [go_sem]) | ((with_reducible refine an ?_ ?_); focus exact Au))
          refine ret_eq ?_; simp only [go_sem]
end Go.AL
end
section
/- What is read of arguments that are traces or lists. No condition. -/
namespace Go.AL
open Go Go.RowKit
set_option maxRecDepth 100000
section
variable {H : Type} {enc : TypeId × Value → H} {W : World}
theorem rdInts : Rd enc Go.Proofs.Tryz.prog W 42 1 aInts (fun l => l.length ≤ maxLen) :=
  (Rd.slice Go.Proofs.Tryz.underlying42 (by kernel_rfl : Program.cellsOf Go.Proofs.Tryz.prog 3 = 1) (by decide) (Rd.int Go.Proofs.Tryz.underlying3)).map id (fun _ => rfl) (fun _ h => h.1)
theorem rdAsg : Rd enc Go.Proofs.Tryz.prog W 157 2 aAsg (fun _ => True) :=
  (Rd.struct (ts := [3, 3]) Go.Proofs.Tryz.underlying157 rfl rfl (by kernel_rfl) (by kernel_rfl)
    (.cons (Rd.int Go.Proofs.Tryz.underlying3) (fun _ => ⟨rfl, rfl⟩) (.cons (Rd.int Go.Proofs.Tryz.underlying3) (fun _ => ⟨rfl, rfl⟩) .nil))).map (fun (y : Int × Int × Unit) => (y.1, y.2.1)) (fun _ => rfl) (fun _ _ => trivial)
theorem rdAsgs : Rd enc Go.Proofs.Tryz.prog W 73 1 aAsgs (fun _ => True) :=
  (Rd.slice Go.Proofs.Tryz.underlying73 (by kernel_rfl : Program.cellsOf Go.Proofs.Tryz.prog 157 = 2) (by decide) rdAsg).map id (fun _ => rfl) (fun _ _ => trivial)
theorem rdVar : Rd enc Go.Proofs.Tryz.prog W 155 2 aVar (fun _ => True) :=
  (Rd.struct (ts := [9, 3]) Go.Proofs.Tryz.underlying155 rfl rfl (by kernel_rfl) (by kernel_rfl)
    (.cons (Rd.str Go.Proofs.Tryz.underlying9) (fun _ => ⟨rfl, rfl⟩) (.cons (Rd.int Go.Proofs.Tryz.underlying3) (fun _ => ⟨rfl, rfl⟩) .nil))).map (fun (y : ByteArray × Int × Unit) => (y.1, y.2.1)) (fun _ => rfl) (fun _ _ => trivial)
theorem rdVars : Rd enc Go.Proofs.Tryz.prog W 52 1 aVars (fun _ => True) :=
  (Rd.slice Go.Proofs.Tryz.underlying52 (by kernel_rfl : Program.cellsOf Go.Proofs.Tryz.prog 155 = 2) (by decide) rdVar).map id (fun _ => rfl) (fun _ _ => trivial)
theorem rdEv : Rd enc Go.Proofs.Tryz.prog W 75 5 aEv (fun _ => True) :=
  (Rd.struct (ts := [3, 3, 3, 3, 73]) Go.Proofs.Tryz.underlying75 rfl rfl (by kernel_rfl) (by kernel_rfl)
    (.cons (Rd.int Go.Proofs.Tryz.underlying3) (fun _ => ⟨rfl, rfl⟩) (.cons (Rd.int Go.Proofs.Tryz.underlying3) (fun _ => ⟨rfl, rfl⟩) (.cons (Rd.int Go.Proofs.Tryz.underlying3) (fun _ => ⟨rfl, rfl⟩)
      (.cons (Rd.int Go.Proofs.Tryz.underlying3) (fun _ => ⟨rfl, rfl⟩) (.cons rdAsgs (fun _ => ⟨rfl, rfl⟩) .nil)))))).map (fun (y : Int × Int × Int × Int × List (Int × Int) × Unit) => ⟨y.1, y.2.1, y.2.2.1, y.2.2.2.1, y.2.2.2.2.1⟩) (fun _ => rfl) (fun _ _ => trivial)
end
end Go.AL
end
section
/- A trace is read: the events of its processes are no more than a slice may have. No condition. -/
namespace Go.AL
open Go Go.RowKit
set_option maxRecDepth 100000
section
variable {H : Type} {enc : TypeId × Value → H} {W : World}
theorem rdEvsM : Rd enc Go.Proofs.Tryz.prog W 53 1 aEvs (fun l => l.length ≤ maxLen) :=
  (Rd.slice Go.Proofs.Tryz.underlying53 (by kernel_rfl : Program.cellsOf Go.Proofs.Tryz.prog 75 = 5) (by decide) rdEv).map id (fun _ => rfl) (fun _ h => h.1)
theorem rdPrM : Rd enc Go.Proofs.Tryz.prog W 55 3 aPr (fun p => p.evs.length ≤ maxLen) :=
  (Rd.struct (ts := [9, 52, 53]) Go.Proofs.Tryz.underlying55 rfl rfl (by kernel_rfl) (by kernel_rfl)
    (.cons (Rd.str Go.Proofs.Tryz.underlying9) (fun _ => ⟨rfl, rfl⟩) (.cons rdVars (fun _ => ⟨rfl, rfl⟩) (.cons rdEvsM (fun _ => ⟨rfl, rfl⟩) .nil)))).map (fun (y : ByteArray × List (ByteArray × Int) × List Ev × Unit) => ⟨y.1, y.2.1, y.2.2.1⟩) (fun _ => rfl) (fun _ h => h.2.2.1)
theorem rdPrsM : Rd enc Go.Proofs.Tryz.prog W 22 1 aPrs (fun l => l.length ≤ maxLen ∧ ∀ p ∈ l, p.evs.length ≤ 9223372036854775807) :=
  (Rd.slice Go.Proofs.Tryz.underlying22 (by kernel_rfl : Program.cellsOf Go.Proofs.Tryz.prog 55 = 3) (by decide) rdPrM).map id (fun _ => rfl) (fun _ h => h)
theorem rdTrM : Rd enc Go.Proofs.Tryz.prog W 24 1 aTr (fun l => l.length ≤ maxLen ∧ ∀ p ∈ l, p.evs.length ≤ 9223372036854775807) :=
  (Rd.struct (ts := [22]) Go.Proofs.Tryz.underlying24 rfl rfl (by kernel_rfl) (by kernel_rfl) (.cons rdPrsM (fun _ => ⟨rfl, rfl⟩) .nil)).map (fun (y : List Pr × Unit) => y.1) (fun _ => rfl) (fun _ h => h.1)
end
end Go.AL
end
