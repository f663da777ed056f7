/- Texts of this claim's proof: WU2, WU3, WU4, WU5, WU6, WU8, WU9, WNf, WNd2, WNh, WU10, WU12. No condition. -/
import Derived.Test.YtmnabhohlflkkaaGreatM13
import Derived.Test.YtmnabhohlflkkaaGreatM12
import Derived.Test.YtmnabhohlflkkaaGreatM8
import Derived.Test.YtmnabhohlflkkaaGreatM10
import Derived.Test.YtmnabhohlflkkaaGreatM11
section
/- The reference of steps and of events that come next: More, Sent, Enabled, With, Lengths. No condition. -/
namespace Go.AL
open Go Go.RowKit
set_option maxRecDepth 4000
theorem ref22_With (c : List Int) (hc : Cb c) (p : Nat) (hp : p < c.length) : PC Go.Proofs.Tryz.prog 58 [aInts c, ai p] (aInts (stpC c p)) := by
  have hl := hc.1
  have hz := hc.2 _ (List.getElem_mem hp)
  have hg := getD_map (f := ai) hp
  have hst : (c.map ai).set p (ai (c[p] + 1)) = (stpC c p).map ai := by unfold stpC; rw [cAt_nat hp, List.map_set]
  have hsl : (stpC c p).length = c.length := by unfold stpC; rw [List.length_set]
  refine PC.enter 16 [.tmp 4] [] Go.Proofs.Tryz.func58 rfl rfl rfl rfl rfl (by simp) (AWp.of ?_); simp only [go_sem]
  repeat (first | ((with_reducible refine AWp.ofC ?_ ?_); (focus exact rfl); simp only [go_sem]) | ((with_reducible refine an ?_ ?_); focus exact Au))
  intro b0
  refine ⟨⟨by omega, by omega⟩, fun b cap hcap => ?_⟩
  repeat (first | ((with_reducible refine AWp.ofC ?_ ?_); (focus exact rfl); simp only [go_sem, hg]) | ((with_reducible refine an ?_ ?_); focus exact Au))
  repeat ((with_reducible refine an ?_ ?_); focus exact As)
  rw [hst]
  refine ret_view [true] ?_; simp only [go_sem]
  exact Vw.ofLs (if_pos rfl) (by rw [List.length_map, hsl])
theorem ref22_More (ps : List Pr) (hs : Sm ps) (c : List Int) (p : Nat) (hp : p < ps.length) (hpc : p < c.length) : PC Go.Proofs.Tryz.prog 96 [aTr ps, aInts c, ai p] (ab (decide (cAt c p < nev ps p))) := by
  have hl := hs.procs
  have hel := hs.evs _ (List.getElem_mem hp)
  have hgp := getD_map (f := aPr) hp
  have hgc := getD_map (f := ai) hpc
  have h1 := nev_get hp
  have h2 := cAt_nat hpc
  rw [h1, h2]
  refine PC.enter 19 [.tmp 6] [3] Go.Proofs.Tryz.func96 rfl rfl rfl rfl rfl (by simp) (AWp.of ?_); simp only [go_sem]
  repeat (first | ((with_reducible refine AWp.ofC ?_ ?_); (focus exact rfl); simp only [go_sem]) | ((with_reducible refine an ?_ ?_); focus exact Au))
  refine AWp.seq ?_
  repeat (first | (with_reducible refine AWp.seq ?_) | (with_reducible refine AWp.block ?_))
  refine AWp.read mixed [0, 1, 2, 3, 4, 5, 6, 7, 8, 9, 10, 11, 12] (by kernel_rfl) ?_; simp only [go_sem, hgp, hgc]
  repeat ((with_reducible refine an ?_ ?_); focus exact As)
  repeat (first | ((with_reducible refine AWp.ofC ?_ ?_); (focus exact rfl); simp only [go_sem]) | ((with_reducible refine an ?_ ?_); focus exact Au))
  refine ret_eq ?_; simp only [go_sem]
theorem ref22_SentN (ps : List Pr) (hs : Sm ps) (hv : validF ps = true) (c : List Int) (hc : isF ps c = true) (p : Nat) (hp : p < ps.length) (i : Nat) (hi : i < ps[p].evs.length) (hic : cAt c p = i) :
    PC Go.Proofs.Tryz.prog 97 [aTr ps, aInts c, ai p, ai i] (ab (isF ps (stpC c p))) := by
  obtain ⟨hl1, hl8⟩ := valid_len hv
  obtain ⟨hcl, hcr, _⟩ := isF_iff.1 hc
  have hl := hs.procs
  have hel := hs.evs _ (List.getElem_mem hp)
  have hgp := getD_map (f := aPr) hp
  have hge := getD_map (f := aEv) hi
  have hsp := stp_iff hv hc hp hi hic
  have hne : needE ps ps[p].evs[i] = if ps[p].evs[i].kind = 3 then findIn (evIds ps) 2 ps[p].evs[i].msg else (0, 0) := rfl
  rw [hne] at hsp
  have hfd := ref12_Find ps hs 2 ps[p].evs[i].msg
  obtain ⟨f1, f2⟩ := findIn_proc hl1 2 ps[p].evs[i].msg
  have hgs := getD_cAt (c := c) f1 (by omega)
  have h0 := ((inRange_iff hcl).1 hcr 0 (by omega)).1
  generalize findIn (evIds ps) 2 ps[p].evs[i].msg = s at *
  generalize isF ps (stpC c p) = B at *
  refine PC.enter 35 [.tmp 8] [4, 9, 10] Go.Proofs.Tryz.func97 rfl rfl rfl rfl rfl (by simp) (AWp.of ?_); simp only [go_sem]
  repeat (first | ((with_reducible refine AWp.ofC ?_ ?_); (focus exact rfl); simp only [go_sem, hgp, hge]) | ((with_reducible refine an ?_ ?_); focus exact Au))
  intro b9
  repeat (first | ((with_reducible refine AWp.ofC ?_ ?_); (focus exact rfl); simp only [go_sem]) | ((with_reducible refine an ?_ ?_); focus exact Au))
  refine ⟨fun h3 => ?_, fun h3 => ?_⟩
  · rw [if_neg h3] at hsp
    have hB : B = true := hsp.2 (by simpa using h0)
    subst hB
    repeat (first | ((with_reducible refine AWp.ofC ?_ ?_); (focus exact rfl); simp only [go_sem]) | ((with_reducible refine an ?_ ?_); focus exact Au))
    refine ret_eq ?_; simp only [go_sem]
  · rw [if_pos h3] at hsp
    repeat (first | ((with_reducible refine AWp.ofC ?_ ?_); (focus exact rfl); simp only [go_sem]) | ((with_reducible refine an ?_ ?_); focus exact Au))
    repeat ((with_reducible refine an ?_ ?_); focus exact As)
    refine (hfd).val.use ?_; simp only [go_sem]
    repeat ((with_reducible refine an ?_ ?_); focus exact As)
    intro b10
    refine AWp.seq ?_
    refine AWp.drawn mixed 8 (by kernel_rfl) ?_; simp only [go_sem, hgs]
    repeat ((with_reducible refine an ?_ ?_); focus exact As)
    repeat (first | ((with_reducible refine AWp.ofC ?_ ?_); (focus exact rfl); simp only [go_sem]) | ((with_reducible refine an ?_ ?_); focus exact Au))
    refine ret_eq ?_; simp only [go_sem]
    congr 2
    cases B with
    | true => exact decide_eq_true (hsp.1 rfl)
    | false => exact decide_eq_false fun h => by cases hsp.2 h
def enI (ps : List Pr) (c : List Int) (k : Nat) : List Int := (enF ps c k).map fun (p : Nat) => (p : Int)
theorem enI_succ (ps : List Pr) (c : List Int) (k : Nat) : enI ps c (k + 1) = enI ps c k ++ if rdyF ps c k = true then [(k : Int)] else [] := by
  unfold enI
  rw [enF_succ, List.map_append]
  split <;> rfl
theorem enI_len (ps : List Pr) (c : List Int) (k : Nat) : (enI ps c k).length ≤ k := by unfold enI; rw [List.length_map]; exact enF_len ps c k
theorem ref22_Enabled (ps : List Pr) (hs : Sm ps) (hv : validF ps = true) (c : List Int) (hc : isF ps c = true) : PC Go.Proofs.Tryz.prog 56 [aTr ps, aInts c] (aInts (enI ps c c.length)) := by
  have hcb := isF_cb hs hc
  have hcl := (isF_iff.1 hc).1
  have hcr := (inRange_iff hcl).1 (isF_iff.1 hc).2.1
  have hM := fun p hp hpc => ref22_More ps hs c p hp hpc
  have hS := fun p hp i hi h => ref22_SentN ps hs hv c hc p hp i hi h
  have hlen := fun k => enI_len ps c k
  have hl8 := (valid_len hv).2
  have hR : aInts (enI ps c c.length) = .sl 1 ((enI ps c c.length).map ai) := rfl
  rw [hR]
  refine PC.enter 32 [.tmp 4] [2, 29] Go.Proofs.Tryz.func56 rfl rfl rfl rfl rfl (by simp) (AWp.of ?_); simp only [go_sem]
  repeat (first | ((with_reducible refine AWp.ofC ?_ ?_); (focus exact rfl); simp only [go_sem]) | ((with_reducible refine an ?_ ?_); focus exact Au))
  refine AWp.block (AWp.count 6 c.length [5] [1, 2] (fun k vs L => ∃ v, vs = [v] ∧ AppSt 3 1 ((enI ps c k).map ai) v L) rfl rfl ⟨anil, rfl, .nil⟩ ?_)
  rintro k vs L hk - ⟨v, rfl, hA⟩
  have hfo := hA.fo
  have hyl : ((enI ps c k).map ai).length ≤ k := by rw [List.length_map]; exact hlen k
  simp only [go_sem]
  by_cases hkn : k < c.length
  · have hki : (k : Int) < c.length := by omega
    have hkp : k < ps.length := by omega
    have gc := getD_map (f := ai) hkn
    have h1 := hM k hkp hkn
    have h2 := cAt_nat hkn
    have h3 := hcr k hkp
    obtain ⟨i, hi⟩ : ∃ i : Nat, cAt c k = i := ⟨(cAt c k).toNat, by omega⟩
    have gi : c[k] = (i : Int) := by rw [← h2, hi]
    have hnv := nev_get hkp
    have hsu := congrArg (List.map ai) (enI_succ ps c k)
    rw [List.map_append] at hsu
    have hrd : rdyF ps c k = (decide (cAt c k < nev ps k) && isF ps (stpC c k)) := by
      unfold rdyF
      rw [Bool.decide_and, Bool.decide_eq_true]
    have hSk : cAt c k < nev ps k → PC Go.Proofs.Tryz.prog 97 [aTr ps, aInts c, ai k, ai i] (ab (isF ps (stpC c k))) := fun h => hS k hkp i (by omega) hi
    rw [hrd] at hsu
    generalize hB1 : decide (cAt c k < nev ps k) = B1 at *
    generalize isF ps (stpC c k) = B2 at *
    have hSk : B1 = true → PC Go.Proofs.Tryz.prog 97 [aTr ps, aInts c, ai k, ai i] (ab B2) := fun h => hSk (of_decide_eq_true (hB1.trans h))
    generalize (enI ps c k).map ai = ys at *
    rw [gi] at gc
    rcases hA.inv with ⟨e1, rfl, rfl⟩ | ⟨b, cap, rfl, rfl⟩
    · repeat (first | ((with_reducible refine AWp.ofC ?_ ?_); (focus exact rfl); simp only [go_sem, hki]) | ((with_reducible refine an ?_ ?_); focus exact Au))
      refine AWp.seq (AWp.block (AWp.seq ?_))
      repeat (first | (with_reducible refine AWp.seq ?_) | (with_reducible refine AWp.block ?_))
      refine AWp.read mixed [0, 1, 2, 3, 4, 5, 6, 7, 8, 9, 10, 11, 12, 13] (by kernel_rfl) ?_; simp only [go_sem]
      repeat ((with_reducible refine an ?_ ?_); focus exact As)
      refine GCall.use (ab B1) (fun _ => ⟨At, (h1).val.use ⟨rfl, rfl⟩⟩) ?_; simp only [go_sem, gc]
      repeat ((with_reducible refine an ?_ ?_); focus exact As)
      refine GCall.use (ab B2) (fun h => ⟨At, (hSk (by simpa using h)).val.use ⟨rfl, rfl⟩⟩) ?_
      simp only [go_sem]
      cases hr : (B1 && B2) with
      | true =>
        rw [hr, if_pos rfl, e1] at hsu
        repeat (first | ((with_reducible refine AWp.ofC ?_ ?_); (focus exact rfl); simp only [go_sem]) | ((with_reducible refine an ?_ ?_); focus exact Au))
        intro b' cap' hc'
        repeat (first | ((with_reducible refine AWp.ofC ?_ ?_); (focus exact rfl); simp only [go_sem]) | ((with_reducible refine an ?_ ?_); focus exact Au))
        exact ⟨_, List.Sublist.refl _, _, rfl, by rw [hsu]; exact .row b' [_] cap'⟩
      | false =>
        rw [hr, if_neg (by decide), e1] at hsu
        repeat (first | ((with_reducible refine AWp.ofC ?_ ?_); (focus exact rfl); simp only [go_sem]) | ((with_reducible refine an ?_ ?_); focus exact Au))
        exact ⟨_, List.Sublist.refl _, _, rfl, by rw [hsu]; exact .nil⟩
    · repeat (first | ((with_reducible refine AWp.ofC ?_ ?_); (focus exact rfl); simp only [go_sem, hki]) | ((with_reducible refine an ?_ ?_); focus exact Au))
      refine AWp.seq (AWp.block (AWp.seq ?_))
      repeat (first | (with_reducible refine AWp.seq ?_) | (with_reducible refine AWp.block ?_))
      refine AWp.read mixed [0, 1, 2, 3, 4, 5, 6, 7, 8, 9, 10, 11, 12, 13] (by kernel_rfl) ?_; simp only [go_sem]
      repeat ((with_reducible refine an ?_ ?_); focus exact As)
      refine GCall.use (ab B1) (fun _ => ⟨At, (h1).val.use ⟨rfl, rfl⟩⟩) ?_; simp only [go_sem, gc]
      repeat ((with_reducible refine an ?_ ?_); focus exact As)
      refine GCall.use (ab B2) (fun h => ⟨At, (hSk (by simpa using h)).val.use ⟨rfl, rfl⟩⟩) ?_
      simp only [go_sem]
      cases hr : (B1 && B2) with
      | true =>
        rw [hr, if_pos rfl] at hsu
        repeat (first | ((with_reducible refine AWp.ofC ?_ ?_); (focus exact rfl); simp only [go_sem]) | ((with_reducible refine an ?_ ?_); focus exact Au))
        intro b' cap' hc'
        repeat (first | ((with_reducible refine AWp.ofC ?_ ?_); (focus exact rfl); simp only [go_sem]) | ((with_reducible refine an ?_ ?_); focus exact Au))
        exact ⟨_, List.Sublist.refl _, _, rfl, by rw [hsu]; exact AppSt.snoc b' cap' _ rfl⟩
      | false =>
        rw [hr, if_neg (by decide)] at hsu
        repeat (first | ((with_reducible refine AWp.ofC ?_ ?_); (focus exact rfl); simp only [go_sem]) | ((with_reducible refine an ?_ ?_); focus exact Au))
        refine ⟨_, List.Sublist.refl _, _, rfl, ?_⟩
        rw [hsu]; simpa using AppSt.row b ys cap
  · have hki : ¬ (k : Int) < (c.length : Int) := by omega
    have : k = c.length := by omega
    subst this
    generalize (enI ps c c.length).map ai = ys at *
    rcases hA.inv with ⟨e1, rfl, rfl⟩ | ⟨b, cap, rfl, rfl⟩
    · repeat (first | ((with_reducible refine AWp.ofC ?_ ?_); (focus exact rfl); simp only [go_sem, hki]) | ((with_reducible refine an ?_ ?_); focus exact Au))
      refine ret_view [] ?_; simp only [go_sem]
      rw [e1]; exact .nil 1
    · repeat (first | ((with_reducible refine AWp.ofC ?_ ?_); (focus exact rfl); simp only [go_sem, hki]) | ((with_reducible refine an ?_ ?_); focus exact Au))
      refine ret_view [true] ?_; simp only [go_sem]
      exact Vw.ofLs (if_pos rfl) rfl
theorem ref12_Lengths (ps : List Pr) (hs : Sm ps) : PC Go.Proofs.Tryz.prog 68 [aTr ps] (aInts (fullC ps)) := by
  have hl := hs.procs
  have hy : ∀ k, k ≤ ps.length → (((ps.take k).map fun x => (x.evs.length : Int)).map ai).length = k := fun k hk => by simp; omega
  have hys : ∀ k (hk : k < ps.length), ((ps.take (k + 1)).map fun x => (x.evs.length : Int)).map ai = ((ps.take k).map fun x => (x.evs.length : Int)).map ai ++ [ai (ps[k].evs.length : Int)] := fun k hk => by
    rw [List.take_add_one, List.getElem?_eq_getElem hk, List.map_append, List.map_append]; rfl
  have hR : aInts (fullC ps) = .sl 1 ((ps.map fun x => (x.evs.length : Int)).map ai) := rfl
  rw [hR]
  refine PC.enter 23 [.tmp 2] [1, 20] Go.Proofs.Tryz.func68 rfl rfl rfl rfl rfl (by simp) (AWp.of ?_); simp only [go_sem]
  repeat (first | ((with_reducible refine AWp.ofC ?_ ?_); (focus exact rfl); simp only [go_sem]) | ((with_reducible refine an ?_ ?_); focus exact Au))
  refine AWp.block (AWp.count 4 ps.length [3] [1] (fun k vs L => ∃ v, vs = [v] ∧ AppSt 3 1 (((ps.take k).map fun x => (x.evs.length : Int)).map ai) v L) rfl rfl ⟨anil, rfl, .nil⟩ ?_)
  rintro k vs L hk - ⟨v, rfl, hA⟩
  have hyl := hy k hk
  have hfo := hA.fo
  simp only [go_sem]
  by_cases hkn : k < ps.length
  · have hki : (k : Int) < ps.length := by omega
    have hgp := getD_map (f := aPr) hkn
    have hel := hs.evs _ (List.getElem_mem hkn)
    have hys := hys k hkn
    generalize hZ : ((ps.take k).map fun x => (x.evs.length : Int)).map ai = ys at *
    rcases hA.inv with ⟨e1, rfl, rfl⟩ | ⟨b, cap, rfl, rfl⟩
    · repeat (first | ((with_reducible refine AWp.ofC ?_ ?_); (focus exact rfl); simp only [go_sem, hki, hgp]) | ((with_reducible refine an ?_ ?_); focus exact Au))
      intro b' cap' _
      repeat (first | ((with_reducible refine AWp.ofC ?_ ?_); (focus exact rfl); simp only [go_sem]) | ((with_reducible refine an ?_ ?_); focus exact Au))
      refine ⟨_, List.Sublist.refl _, _, rfl, ?_⟩
      rw [hys, e1]
      exact .row _ _ _
    · repeat (first | ((with_reducible refine AWp.ofC ?_ ?_); (focus exact rfl); simp only [go_sem, hki, hgp]) | ((with_reducible refine an ?_ ?_); focus exact Au))
      intro b' cap' _
      repeat (first | ((with_reducible refine AWp.ofC ?_ ?_); (focus exact rfl); simp only [go_sem]) | ((with_reducible refine an ?_ ?_); focus exact Au))
      refine ⟨_, List.Sublist.refl _, _, rfl, ?_⟩
      rw [hys]
      exact AppSt.snoc b' cap' _ rfl
  · have hki : ¬ (k : Int) < (ps.length : Int) := by omega
    have : k = ps.length := by omega
    subst this
    rw [List.take_length] at hA
    generalize (ps.map fun x => (x.evs.length : Int)).map ai = ys at *
    rcases hA.inv with ⟨e1, rfl, rfl⟩ | ⟨b, cap, rfl, rfl⟩
    · repeat (first | ((with_reducible refine AWp.ofC ?_ ?_); (focus exact rfl); simp only [go_sem, hki]) | ((with_reducible refine an ?_ ?_); focus exact Au))
      refine ret_view [] ?_; simp only [go_sem]
      rw [e1]; exact .nil 1
    · repeat (first | ((with_reducible refine AWp.ofC ?_ ?_); (focus exact rfl); simp only [go_sem, hki]) | ((with_reducible refine an ?_ ?_); focus exact Au))
      refine ret_view [true] ?_; simp only [go_sem]
      exact Vw.ofLs (if_pos rfl) rfl
end Go.AL
end
section
/- The reference of runs: step, Is, Events. No condition. -/
namespace Go.AL
open Go Go.RowKit
set_option maxRecDepth 4000
theorem chn_iff {ps : List Pr} : ∀ {r : List (List Int)} {a : List Int}, chnF ps a r = true ↔ ∀ j (h : j < r.length), isF ps r[j] = true ∧ 0 ≤ stepF ((a :: r)[j]'(by rw [List.length_cons]; omega)) r[j]
  | [], a => ⟨fun _ j h => absurd h (by simp), fun _ => rfl⟩
  | b :: r, a => by
    have e : chnF ps a (b :: r) = ((isF ps b && decide (0 ≤ stepF a b)) && chnF ps b r) := rfl
    rw [e, Bool.and_eq_true, Bool.and_eq_true, decide_eq_true_eq, chn_iff]
    constructor
    · rintro ⟨h1, h2⟩ j hj
      cases j with
      | zero => exact h1
      | succ j => exact h2 j (by simpa using hj)
    · intro h
      exact ⟨h 0 (by simp), fun j hj => h (j + 1) (by simpa using hj)⟩
end Go.AL
end
section
/- The reference of runs: Events, Of. No condition. -/
namespace Go.AL
open Go Go.RowKit
set_option maxRecDepth 4000
end Go.AL
end
section
/- The reference of runs: Of. No condition. -/
namespace Go.AL
open Go Go.RowKit
set_option maxRecDepth 4000
def ofL (ps : List Pr) (l : List Eid) : List (List Int) := match ofR ps (zeroC ps) l with | none => [] | some R => zeroC ps :: R
end Go.AL
end
section
/- The reference of runs: complete, First, Through. No condition. -/
namespace Go.AL
open Go Go.RowKit
set_option maxRecDepth 4000
theorem valid_off {ps : List Pr} (hv : validF ps = true) : off ps ps.length ≤ 512 := by
  have h : ∀ k, k ≤ ps.length → off ps k ≤ 64 * k := fun k => by
    induction k with
    | zero => intro _; simp [off]
    | succ k ih =>
      intro hk
      have h1 := off_succ (show k < ps.length by omega)
      have h2 := ih (by omega)
      have h3 : ps[k].evs.length ≤ 64 := by
        apply Classical.byContradiction
        intro h4
        exact procF_evs (show k < ps.length by omega) (by omega) (procF_of_valid hv (by omega))
      omega
  have := h ps.length (Nat.le_refl _)
  have := (valid_len hv).2
  omega
def lessB (c to : List Int) (x : Int) : Bool := decide (cAt c x < cAt to x)
end Go.AL
end
section
/- Runs of traces that are not valid, however large; the law RunLeast. No condition. -/
namespace Go.AL
open Go Go.RowKit
set_option maxRecDepth 4000
section
variable {ps : List Pr} (hva : PC Go.Proofs.Tryz.prog 45 [aTr ps] (ab false))
include hva
theorem run_avoiding_bad (l : List (List Int)) : PC Go.Proofs.Tryz.prog 60 [aTr ps, aRows l] (.tup [.v (.map none), ai 1]) := by
  refine PC.enter 100 [.tmp 4, .tmp 5] [2] Go.Proofs.Tryz.func60 rfl rfl rfl rfl rfl (by simp) (AWp.of ?_); simp only [go_sem]
  repeat (first | ((with_reducible refine AWp.ofC ?_ ?_); (focus exact rfl); simp only [go_sem]) | ((with_reducible refine an ?_ ?_); focus exact Au))
  repeat ((with_reducible refine an ?_ ?_); focus exact As)
  refine (hva).val.use ?_; simp only [go_sem]
  repeat (first | ((with_reducible refine AWp.ofC ?_ ?_); (focus exact rfl); simp only [go_sem]) | ((with_reducible refine an ?_ ?_); focus exact Au))
  refine ret_eq ?_; simp only [go_sem]
theorem run_Avoid_bad (l : List (List Int)) : PC Go.Proofs.Tryz.prog 16 [aTr ps, aRows l] (.tup [aRows [], ai 1]) := by
  have hA := run_avoiding_bad hva l
  have haR : ∀ x : List (List Int), aRows x = .sl 1 (x.map aInts) := fun _ => rfl
  rw [haR] at hA
  refine PC.enter 29 [.tmp 4, .tmp 5] [2, 6] Go.Proofs.Tryz.func16 rfl rfl rfl rfl rfl (by simp) (AWp.of ?_); simp only [go_sem]
  repeat (first | ((with_reducible refine AWp.ofC ?_ ?_); (focus exact rfl); simp only [go_sem]) | ((with_reducible refine an ?_ ?_); focus exact Au))
  repeat ((with_reducible refine an ?_ ?_); focus exact As)
  refine (hA).val.use ?_; simp only [go_sem]
  intro b6
  repeat (first | ((with_reducible refine AWp.ofC ?_ ?_); (focus exact rfl); simp only [go_sem, Int.reduceEq]) | ((with_reducible refine an ?_ ?_); focus exact Au))
  refine ret_view [] ?_; simp only [go_sem]
  exact .mkTup (Vws.cons (.nil 1) (Vws.refl _))
theorem run_Blocked_bad (l : List (List Int)) : PC Go.Proofs.Tryz.prog 17 [aTr ps, aRows l] (.tup [ab false, ai 1]) := by
  have hA := run_avoiding_bad hva l
  have haR : ∀ x : List (List Int), aRows x = .sl 1 (x.map aInts) := fun _ => rfl
  rw [haR] at *
  refine PC.enter 24 [.tmp 4, .tmp 5] [2] Go.Proofs.Tryz.func17 rfl rfl rfl rfl rfl (by simp) (AWp.of ?_); simp only [go_sem]
  repeat (first | ((with_reducible refine AWp.ofC ?_ ?_); (focus exact rfl); simp only [go_sem]) | ((with_reducible refine an ?_ ?_); focus exact Au))
  repeat ((with_reducible refine an ?_ ?_); focus exact As)
  refine (hA).val.use ?_; simp only [go_sem]
  repeat (first | ((with_reducible refine AWp.ofC ?_ ?_); (focus exact rfl); simp only [go_sem, Int.reduceEq]) | ((with_reducible refine an ?_ ?_); focus exact Au))
  refine ret_eq ?_; simp only [go_sem]
end
/-- What is known of a trace that the laws' bounds let pass. -/
structure Vd (ps : List Pr) : Prop where
  val : PC Go.Proofs.Tryz.prog 45 [aTr ps] (ab (validF ps))
  rval : PC Go.Proofs.Tryz.prog 12 [aTr ps] (ab (validF ps))
  sm : validF ps = true → Sm ps
  big : Sm ps ∨ validF ps = false
theorem vd_of {ps : List Pr} {m : Int} (h : smF ps m = true) : Vd ps := by
  rcases smF_cases h with h | ⟨h, hb⟩
  · exact ⟨trace_Valid ps h, ref12_Valid ps h, fun _ => h, .inl h⟩
  · exact ⟨trace_ValidB ps h hb, ref12_ValidB ps h hb, fun hv => absurd hv (by rw [valid_bad hb]; simp), .inr (valid_bad hb)⟩
end Go.AL
end
section
/- The law RunChecks: the walk. No condition. -/
namespace Go.AL
open Go Go.RowKit
set_option maxRecDepth 4000
end Go.AL
end
section
/- Irreducible cuts: the walks. No condition. -/
namespace Go.AL
open Go Go.RowKit
set_option maxRecDepth 4000
end Go.AL
end
section
/- Meets; equal or smaller cuts in lists. No condition. -/
namespace Go.AL
open Go Go.RowKit
set_option maxRecDepth 4000
end Go.AL
end
section
/- The reference's Irreducible, Find, Between. No condition. -/
namespace Go.AL
open Go Go.RowKit
set_option maxRecDepth 4000
theorem ref23_Find (l : List (List Int)) (c : List Int) (hl : l.length ≤ 1000000) (hx : ∀ x ∈ l, x.length ≤ 1000000) : PC Go.Proofs.Tryz.prog 57 [aRows l, aInts c] (ai (idxF l c)) := by
  have hR : ∀ x : List (List Int), aRows x = .sl 1 (x.map aInts) := fun _ => rfl
  have hid : idxF l c = match l.findIdx? fun d => decide (d = c) with | some i => (i : Int) | none => -1 := by
    unfold idxF
    have : (fun d => decide (c = d)) = fun d => decide (d = c) := funext fun d => by rw [decide_eq_decide]; exact eq_comm
    rw [this]; rfl
  rw [hR]
  refine PC.enter 19 [.tmp 4] [] Go.Proofs.Tryz.func57 rfl rfl rfl rfl rfl (by simp) (AWp.of ?_); simp only [go_sem]
  repeat (first | ((with_reducible refine AWp.ofC ?_ ?_); (focus exact rfl); simp only [go_sem]) | ((with_reducible refine an ?_ ?_); focus exact Au))
  refine AWp.block (AWp.count 5 l.length [] [0, 1] (fun k vs L => L = [] ∧ ∀ (j : Nat) (hj : j < l.length), j < k → ¬ l[j] = c) rfl rfl ⟨rfl, fun j hj h => by omega⟩ ?_)
  rintro k vs L hk - ⟨rfl, hI⟩
  simp only [go_sem]
  repeat (first | ((with_reducible refine AWp.ofC ?_ ?_); (focus exact rfl); simp only [go_sem]) | ((with_reducible refine an ?_ ?_); focus exact Au))
  refine ⟨fun h1 => ?_, fun h1 => ?_⟩
  · have hkl : k < l.length := by omega
    have hg := getD_map (f := aInts) hkl
    have hS := ref15_SameList l[k] c (hx _ (List.getElem_mem hkl))
    repeat (first | ((with_reducible refine AWp.ofC ?_ ?_); (focus exact rfl); simp only [go_sem, hg]) | ((with_reducible refine an ?_ ?_); focus exact Au))
    repeat ((with_reducible refine an ?_ ?_); focus exact As)
    refine (hS).val.use ?_; simp only [go_sem]
    repeat (first | ((with_reducible refine AWp.ofC ?_ ?_); (focus exact rfl); simp only [go_sem]) | ((with_reducible refine an ?_ ?_); focus exact Au))
    refine ⟨fun h2 => ?_, fun h2 => ?_⟩
    · have : (l.findIdx? fun d => decide (d = c)) = some k := by
        rw [List.findIdx?_eq_some_iff_getElem]
        exact ⟨hkl, decide_eq_true h2, fun j hj => by simpa using hI j (by omega) hj⟩
      rw [this] at hid
      rw [hid]
      repeat (first | ((with_reducible refine AWp.ofC ?_ ?_); (focus exact rfl); simp only [go_sem]) | ((with_reducible refine an ?_ ?_); focus exact Au))
      refine ret_eq ?_; simp only [go_sem]
    · repeat (first | ((with_reducible refine AWp.ofC ?_ ?_); (focus exact rfl); simp only [go_sem]) | ((with_reducible refine an ?_ ?_); focus exact Au))
      refine ⟨_, List.Sublist.refl _, rfl, fun j hj hjk => ?_⟩
      by_cases e : j = k
      · subst e; exact h2
      · exact hI j hj (by omega)
  · have : (l.findIdx? fun d => decide (d = c)) = none := by
      rw [List.findIdx?_eq_none_iff]
      intro x hx
      obtain ⟨j, hj, rfl⟩ := List.getElem_of_mem hx
      exact decide_eq_false (hI j hj (by omega))
    rw [this] at hid
    rw [hid]
    repeat (first | ((with_reducible refine AWp.ofC ?_ ?_); (focus exact rfl); simp only [go_sem]) | ((with_reducible refine an ?_ ?_); focus exact Au))
    refine ret_eq ?_; simp only [go_sem]
end Go.AL
end
section
/- The reference of runs: Count. No condition. -/
namespace Go.AL
open Go Go.RowKit
set_option maxRecDepth 4000
def satR (A : Nat → Nat) (n : Nat) : List AV := (List.range n).map fun j => ai (satV (A j))
end Go.AL
end
section
/- The reference of runs: among, Avoid. No condition. -/
namespace Go.AL
open Go Go.RowKit
set_option maxRecDepth 4000
theorem ref24_among (l : List (List Int)) (c : List Int) (hl : l.length ≤ 1000000) (hx : ∀ x ∈ l, x.length ≤ 1000000) : PC Go.Proofs.Tryz.prog 66 [aRows l, aInts c] (ab (badB l c)) := by
  have haR : ∀ x : List (List Int), aRows x = .sl 1 (x.map aInts) := fun _ => rfl
  rw [haR]
  refine PC.enter 18 [.tmp 4] [] Go.Proofs.Tryz.func66 rfl rfl rfl rfl rfl (by simp) (AWp.of ?_); simp only [go_sem]
  repeat (first | ((with_reducible refine AWp.ofC ?_ ?_); (focus exact rfl); simp only [go_sem]) | ((with_reducible refine an ?_ ?_); focus exact Au))
  refine AWp.block (AWp.count 5 l.length [] [0, 1] (fun k vs L => L = [] ∧ ∀ j (h1 : j < l.length), j < k → ¬ l[j] = c) rfl rfl ⟨rfl, fun j _ h => by omega⟩ ?_)
  rintro k vs L hk - ⟨rfl, hI⟩
  simp only [go_sem]
  by_cases hkl : k < l.length
  · have hki : (k : Int) < (l.length : Int) := by omega
    have hg := getD_map (f := aInts) hkl
    have hS := ref24_same l[k] c (hx _ (List.getElem_mem hkl))
    by_cases he : l[k] = c
    · rw [decide_eq_true he] at hS
      have hb : badB l c = true := decide_eq_true (by rw [← he]; exact List.getElem_mem hkl)
      rw [hb]
      repeat (first | ((with_reducible refine AWp.ofC ?_ ?_); (focus exact rfl); simp only [go_sem, hki, hg]) | ((with_reducible refine an ?_ ?_); focus exact Au))
      repeat ((with_reducible refine an ?_ ?_); focus exact As)
      refine (hS).val.use ?_; simp only [go_sem]
      repeat (first | ((with_reducible refine AWp.ofC ?_ ?_); (focus exact rfl); simp only [go_sem]) | ((with_reducible refine an ?_ ?_); focus exact Au))
      refine ret_eq ?_; simp only [go_sem]
    · rw [decide_eq_false he] at hS
      repeat (first | ((with_reducible refine AWp.ofC ?_ ?_); (focus exact rfl); simp only [go_sem, hki, hg]) | ((with_reducible refine an ?_ ?_); focus exact Au))
      repeat ((with_reducible refine an ?_ ?_); focus exact As)
      refine (hS).val.use ?_; simp only [go_sem]
      repeat (first | ((with_reducible refine AWp.ofC ?_ ?_); (focus exact rfl); simp only [go_sem]) | ((with_reducible refine an ?_ ?_); focus exact Au))
      refine ⟨_, List.Sublist.refl _, rfl, fun j j1 hj => ?_⟩
      by_cases e : j = k
      · subst e; exact he
      · exact hI j j1 (by omega)
  · have hki : ¬ (k : Int) < (l.length : Int) := by omega
    have hb : badB l c = false := decide_eq_false fun h => by
      obtain ⟨j, hj, e⟩ := List.getElem_of_mem h
      exact hI j hj (by omega) e
    rw [hb]
    repeat (first | ((with_reducible refine AWp.ofC ?_ ?_); (focus exact rfl); simp only [go_sem, hki]) | ((with_reducible refine an ?_ ?_); focus exact Au))
    refine ret_eq ?_; simp only [go_sem]
/-- The cuts from number i on from which the end is reached. -/
def opR (ps : List Pr) (l m : List (List Int)) (i : Nat) : List AV := (List.range m.length).map fun j => ab (decide (i ≤ j) && opnV ps (badB l) (m.getD j []))
theorem opR_len (ps : List Pr) (l m : List (List Int)) (i : Nat) : (opR ps l m i).length = m.length := by simp [opR]
theorem opR_get {ps : List Pr} {l m : List (List Int)} {i j : Nat} (h : j < m.length) : (opR ps l m i).getD j .any = ab (decide (i ≤ j) && opnV ps (badB l) m[j]) := by
  unfold opR
  rw [List.getD_eq_getElem?_getD, List.getElem?_map, List.getElem?_range h]
  show ab (decide (i ≤ j) && opnV ps (badB l) (m.getD j [])) = _
  rw [List.getD_eq_getElem?_getD, List.getElem?_eq_getElem h]; rfl
theorem opR_set {ps : List Pr} {l m : List (List Int)} {i : Nat} (h : i < m.length) {b : Bool} (hb : b = opnV ps (badB l) m[i]) : (opR ps l m (i + 1)).set i (ab b) = opR ps l m i := by
  unfold opR
  rw [map_range_set m.length i]
  refine List.map_congr_left fun j hj => ?_
  have hj := List.mem_range.1 hj
  by_cases e : j = i
  · subst e
    rw [if_pos rfl, decide_eq_true (Nat.le_refl _), hb, List.getD_eq_getElem?_getD, List.getElem?_eq_getElem h]; rfl
  · rw [if_neg e]
    congr 2
    exact decide_eq_decide.2 ⟨fun h => by omega, fun h => by omega⟩
theorem opR_top (ps : List Pr) (l m : List (List Int)) : opR ps l m m.length = List.replicate m.length (ab false) := by
  unfold opR
  exact List.eq_replicate_iff.2 ⟨by simp, fun x hx => by
    obtain ⟨j, hj, rfl⟩ := List.mem_map.1 hx
    rw [decide_eq_false (by have := List.mem_range.1 hj; omega)]; rfl⟩
theorem opR_keep {ps : List Pr} {l m : List (List Int)} {i : Nat} (_h : i < m.length) : (opR ps l m (i + 1)).set i (ab false) = opR ps l m (i + 1) := by
  apply List.ext_getElem (by simp)
  intro j g1 g2
  rw [List.getElem_set]
  split
  · rename_i e
    subst e
    simp only [opR, List.getElem_map, List.getElem_range]
    rw [decide_eq_false (by omega)]; rfl
  · rfl
theorem getD_set_ne' {r : List AV} {i j : Nat} (h : i ≠ j) (x : AV) : (r.set i x).getD j .any = r.getD j .any := by
  rw [List.getD_eq_getElem?_getD, List.getElem?_set_ne h, ← List.getD_eq_getElem?_getD]
theorem enF_find {ps : List Pr} {f : List Int → Bool} {c : List Int} : (enF ps c c.length).find? (fun p => f (stpC c p)) = firstP ps f c := by
  unfold enF firstP
  rw [List.find?_filter]
  refine find_congr fun p _ => ?_
  rw [Bool.decide_and, Bool.decide_eq_true, Bool.decide_eq_true]
theorem find_at {f : Nat → Bool} {E : List Nat} {p k : Nat} (h : E.find? f = some p) (hk : k < E.length) (h0 : ∀ j (hj : j < E.length), j < k → f E[j] = false) (h1 : f E[k] = true) : E[k] = p := by
  have : E.find? f = some E[k] := by
    rw [List.find?_eq_some_iff_getElem]
    exact ⟨h1, k, hk, rfl, fun j hj => by rw [h0 j (by omega) hj]; rfl⟩
  rw [this] at h
  exact Option.some.inj h
def avR (ps : List Pr) (l : List (List Int)) : List (List Int) := if opnV ps (badB l) (zeroC ps) = true then wlkF ps (opnV ps (badB l)) else []
set_option maxHeartbeats 4000000 in
theorem ref24_Avoid (ps : List Pr) (hs : Sm ps) (hv : validF ps = true) (h1000 : (cutsF ps).length ≤ 1000) (l : List (List Int)) (hl : l.length ≤ 1000000) (hx : ∀ x ∈ l, x.length ≤ 1000000) :
    PC Go.Proofs.Tryz.prog 21 [aTr ps, aRows (cutsF ps), aRows l] (.tup [aRows (avR ps l), ab (opnV ps (badB l) (zeroC ps))]) := by
  have haR : ∀ x : List (List Int), aRows x = .sl 1 (x.map aInts) := fun _ => rfl
  have hm : ∀ c, c ∈ cutsF ps ↔ isF ps c = true := fun c => mem_cutsF hv
  have hl0 := lst_len0 hv (l := cutsF ps) rfl
  have hlast := lst_last hv (l := cutsF ps) rfl
  have hfst := lst_first hv (l := cutsF ps) rfl
  have hord := cuts_ord hv
  have hstep := fun (i : Nat) (hi : i < (cutsF ps).length) p hp => idx_step hv (l := cutsF ps) rfl hi (p := p) hp
  have hen := fun d hd => ref22_Enabled ps hs hv d hd
  have hLe := ref12_Lengths ps hs
  have hl8 := (valid_len hv).2
  have hfc := isF_cb hs (fullC_is hv)
  have hSz := ref23_Size (fullC ps) hfc
  rw [fullC_sum] at hSz
  have hav : avR ps l = if opnV ps (badB l) (zeroC ps) = true then wlkF ps (opnV ps (badB l)) else [] := rfl
  generalize hmm : cutsF ps = m at *
  have hFi := fun c => ref23_Find m c (by omega) fun x hx => by have := (isF_iff.1 ((hm x).1 hx)).1; omega
  have hAm := fun c => ref24_among l c hl hx
  rw [haR, haR] at *
  refine PC.enter 112 [.tmp 6, .tmp 7] [3, 109] Go.Proofs.Tryz.func21 rfl rfl rfl rfl rfl (by simp) (AWp.of ?_); simp only [go_sem]
  repeat (first | ((with_reducible refine AWp.ofC ?_ ?_); (focus exact rfl); simp only [go_sem]) | ((with_reducible refine an ?_ ?_); focus exact Au))
  repeat ((with_reducible refine an ?_ ?_); focus exact As)
  intro b19
  have hrep : List.replicate m.length (AV.v (.bool false)) = opR ps l m m.length := (opR_top ps l m).symm
  repeat (first | ((with_reducible refine AWp.ofC ?_ ?_); (focus exact rfl); simp only [go_sem, hrep]) | ((with_reducible refine an ?_ ?_); focus exact Au))
  refine AWp.block (AWp.loopN [9] [1, 2, 3, 8] (fun i us L => us = [ai ((i : Int) - 1)] ∧ i ≤ m.length ∧ L = [(b19, .row 4 1 (opR ps l m i) m.length)]) m.length ⟨rfl, Nat.le_refl _, rfl⟩ ?_)
  rintro i us L - ⟨rfl, hi, rfl⟩
  cases i with
  | zero =>
    have z : ¬ (0 : Int) ≤ ((0 : Nat) : Int) - 1 := by omega
    have hg0 := opR_get (ps := ps) (l := l) (i := 0) hl0
    have hm0 : m[0] = zeroC ps := by
      rw [List.getD_eq_getElem?_getD, List.getElem?_eq_getElem hl0] at hfst
      exact hfst
    have hgm := getD_map (f := aInts) hl0
    rw [hm0] at hg0 hgm
    rw [decide_eq_true (Nat.zero_le 0), Bool.true_and] at hg0
    have hrl := opR_len ps l m 0
    have hgo : ∀ (j : Nat) (hj : j < m.length), (opR ps l m 0).getD j .any = ab (opnV ps (badB l) m[j]) := fun j hj => by
      rw [opR_get hj, decide_eq_true (Nat.zero_le j), Bool.true_and]
    have hidx : ∀ (d : List Int), isF ps d = true → ∀ p ∈ enF ps d d.length, ∃ j : Nat, idxF m (stpC d p) = (j : Int) ∧ j < m.length ∧ (opR ps l m 0).getD j .any = ab (opnV ps (badB l) (stpC d p)) := fun d hd p hp => by
      obtain ⟨i, hi, rfl⟩ := List.getElem_of_mem ((hm d).2 hd)
      obtain ⟨j1, j2, j3⟩ := hstep i hi p hp
      refine ⟨_, ?_, j2, by rw [hgo _ j2, j3]⟩
      unfold idxN at *
      omega
    generalize opR ps l m 0 = row at *
    cases hop : opnV ps (badB l) (zeroC ps) with
    | false =>
      rw [hop] at hg0 hav
      rw [if_neg (by decide)] at hav
      rw [hav]
      simp only [go_sem]
      repeat (first | ((with_reducible refine AWp.ofC ?_ ?_); (focus exact rfl); simp only [go_sem, z, hg0, hrl]) | ((with_reducible refine an ?_ ?_); focus exact Au))
      refine ret_view [] ?_; simp only [go_sem]
      exact .mkTup (Vws.cons (.nil 1) (Vws.refl _))
    | true =>
      rw [hop] at hg0 hav
      rw [if_pos rfl] at hav
      have hzs : (zeroC ps).sum = 0 := by unfold zeroC; simp
      obtain ⟨R, hR, hRl, -, -⟩ := opn_walk (off ps ps.length) (zeroC_is ps) hop (by omega)
      have hwk : wlkF ps (opnV ps (badB l)) = zeroC ps :: R := by unfold wlkF; rw [hR]
      rw [hav, hwk]
      have hof5 := valid_off hv
      generalize hX : zeroC ps :: R = X at *
      simp only [go_sem]
      repeat (first | ((with_reducible refine AWp.ofC ?_ ?_); (focus exact rfl); simp only [go_sem, z, hg0, hrl, hgm]) | ((with_reducible refine an ?_ ?_); focus exact Au))
      intro b78 g78
      have n1 : ¬ b78 = b19 := by omega
      have n2 : ¬ b19 = b78 := by omega
      repeat (first | ((with_reducible refine AWp.ofC ?_ ?_); (focus exact rfl); simp only [go_sem, n1, n2]) | ((with_reducible refine an ?_ ?_); focus exact Au))
      refine AWp.seq (AWp.block (AWp.loopN [12, 13] [1, 3, 8] (fun n us L => ∃ (d : List Int) (P R' : List (List Int)) (bo cap : Nat), us = [aInts d, .ls bo 1 0 P.length cap] ∧ isF ps d = true ∧ d.sum + n = off ps ps.length ∧ (P.length : Int) = d.sum + 1 ∧ wlkR ps (opnV ps (badB l)) n d = some R' ∧ X = P ++ R' ∧ (¬ bo = b19 ∧ ¬ b19 = bo) ∧ L = [(bo, .row 42 1 (P.map aInts) cap), (b19, .row 4 1 row m.length)]) (off ps ps.length) ?_ ?_))
      · exact ⟨zeroC ps, [zeroC ps], R, b78, 1, rfl, zeroC_is ps, by omega, by rw [hzs]; rfl, hR, hX.symm, ⟨n1, n2⟩, rfl⟩
      rintro n us L - ⟨d, P, R', bo, cap, rfl, hd, hdn, hPl, hw, hPR, ⟨d1, d2⟩, rfl⟩
      have hds := sum_nonneg d (isF_nonneg hd)
      have hdb := isF_cb hs hd
      have heni := hen d hd
      have hEI : enI ps d d.length = (enF ps d d.length).map fun (p : Nat) => (p : Int) := rfl
      rw [hEI] at heni
      cases n with
      | zero =>
        have hlt : ¬ (P.length : Int) ≤ (off ps ps.length : Int) := by omega
        have : R' = [] := (Option.some.inj hw).symm
        subst this
        rw [List.append_nil] at hPR
        rw [hPR]
        simp only [go_sem]
        repeat (first | ((with_reducible refine AWp.ofC ?_ ?_); (focus exact rfl); simp only [go_sem]) | ((with_reducible refine an ?_ ?_); focus exact Au))
        repeat ((with_reducible refine an ?_ ?_); focus exact As)
        refine (hLe).val.use ?_; simp only [go_sem]
        repeat ((with_reducible refine an ?_ ?_); focus exact As)
        refine (hSz).val.use ?_; simp only [go_sem, hlt]
        repeat (first | ((with_reducible refine AWp.ofC ?_ ?_); (focus exact rfl); simp only [go_sem]) | ((with_reducible refine an ?_ ?_); focus exact Au))
        refine ret_view [true, false] ?_; simp only [go_sem]
        exact .mkTup (Vws.cons (Vw.ofLs (if_pos rfl) (by rw [List.length_map])) (Vws.refl _))
      | succ n =>
        have hlt : (P.length : Int) ≤ (off ps ps.length : Int) := by omega
        rw [wlkR_succ] at hw
        cases hf : firstP ps (opnV ps (badB l)) d with
        | none => rw [hf] at hw; cases hw
        | some p =>
          rw [hf] at hw
          simp only at hw
          obtain ⟨R2, hw2, rfl⟩ : ∃ R2, wlkR ps (opnV ps (badB l)) n (stpC d p) = some R2 ∧ R' = stpC d p :: R2 := by
            cases hx : wlkR ps (opnV ps (badB l)) n (stpC d p) with
            | none => rw [hx] at hw; cases hw
            | some R2 => rw [hx] at hw; exact ⟨R2, rfl, (Option.some.inj hw).symm⟩
          obtain ⟨p1, p2, p3⟩ := firstP_some hf
          have hfe := (enF_find (ps := ps) (f := opnV ps (badB l)) (c := d)).trans hf
          have hsp : (stpC d p).sum = d.sum + 1 := sum_stpC p1
          have hmE : ∀ q ∈ enF ps d d.length, q < d.length := fun q hq => (mem_enF.1 hq).1
          have hix := hidx d hd
          have hWi := fun (q : Nat) (hq : q < d.length) => ref22_With d hdb q hq
          have hlen := enF_len ps d d.length
          have e : (P ++ [stpC d p]).map aInts = P.map aInts ++ [.sl 1 ((stpC d p).map ai)] := by rw [List.map_append]; rfl
          have hPn : P.length ≤ 1000 := by omega
          have hdl := (isF_iff.1 hd).1
          generalize enF ps d d.length = E at *
          have hEl : ((E.map fun (p : Nat) => (p : Int)).map ai).length = E.length := by rw [List.length_map, List.length_map]
          simp only [go_sem]
          repeat (first | ((with_reducible refine AWp.ofC ?_ ?_); (focus exact rfl); simp only [go_sem]) | ((with_reducible refine an ?_ ?_); focus exact Au))
          repeat ((with_reducible refine an ?_ ?_); focus exact As)
          refine (hLe).val.use ?_; simp only [go_sem]
          repeat ((with_reducible refine an ?_ ?_); focus exact As)
          refine (hSz).val.use ?_; simp only [go_sem, hlt]
          repeat (first | ((with_reducible refine AWp.ofC ?_ ?_); (focus exact rfl); simp only [go_sem]) | ((with_reducible refine an ?_ ?_); focus exact Au))
          repeat ((with_reducible refine an ?_ ?_); focus exact As)
          refine (heni).val.use ?_; simp only [go_sem]
          repeat (first | ((with_reducible refine AWp.ofC ?_ ?_); (focus exact rfl); simp only [go_sem]) | ((with_reducible refine an ?_ ?_); focus exact Au))
          refine AWp.block (AWp.loopN [12, 15] [1, 3, 8, 13, 14] (fun k us L => ∃ q : Nat, us = [aInts d, ai q] ∧ q + k = E.length ∧ L = [(bo, .row 42 1 (P.map aInts) cap), (b19, .row 4 1 row m.length)] ∧ ∀ j (hj : j < E.length), j < q → opnV ps (badB l) (stpC d E[j]) = false) E.length ⟨0, rfl, by omega, rfl, fun j hj h => by omega⟩ ?_)
          rintro k us L - ⟨q, rfl, hqk, rfl, hno⟩
          by_cases hqE : q < E.length
          · have hki : (q : Int) < (E.length : Int) := by omega
            have hp : E[q] ∈ E := List.getElem_mem hqE
            have hpc := hmE _ hp
            have hge : ((E.map fun (p : Nat) => (p : Int)).map ai).getD q .any = ai (E[q] : Nat) := by
              rw [List.map_map]; exact getD_map (f := fun (p : Nat) => ai p) hqE
            have hW := hWi _ hpc
            have hFk := hFi (stpC d E[q])
            obtain ⟨j, j1, j2, hgj⟩ := hix _ hp
            rw [j1] at hFk
            cases hy : opnV ps (badB l) (stpC d E[q]) with
            | true =>
              have hEp : E[q] = p := find_at (f := fun p => opnV ps (badB l) (stpC d p)) hfe hqE hno hy
              rw [hy] at hgj
              rw [hEp] at hge hW hFk
              simp only [go_sem]
              repeat (first | ((with_reducible refine AWp.ofC ?_ ?_); (focus exact rfl); simp only [go_sem, hki, hEl, hge]) | ((with_reducible refine an ?_ ?_); focus exact Au))
              repeat ((with_reducible refine an ?_ ?_); focus exact As)
              refine (hW).val.use ?_; simp only [go_sem]
              repeat (first | ((with_reducible refine AWp.ofC ?_ ?_); (focus exact rfl); simp only [go_sem]) | ((with_reducible refine an ?_ ?_); focus exact Au))
              repeat ((with_reducible refine an ?_ ?_); focus exact As)
              refine (hFk).val.use ?_; simp only [go_sem, hgj, hrl, d2]
              repeat (first | ((with_reducible refine AWp.ofC ?_ ?_); (focus exact rfl); simp only [go_sem, d1]) | ((with_reducible refine an ?_ ?_); focus exact Au))
              intro b' cap' h3 h4
              exact ⟨_, List.Sublist.refl _, n, by omega, stpC d p, P ++ [stpC d p], R2, b', cap', by rw [List.length_append]; rfl, rdy_is p2, by omega, by rw [List.length_append, List.length_cons, List.length_nil]; omega, hw2, by rw [hPR]; simp, ⟨fun e => h3 e.symm, h3⟩, by rw [e]⟩
            | false =>
              have hno' : ∀ j (hj : j < E.length), j < q + 1 → opnV ps (badB l) (stpC d E[j]) = false := fun j hj h => by
                by_cases e : j = q
                · subst e; exact hy
                · exact hno j hj (by omega)
              rw [hy] at hgj
              simp only [go_sem]
              repeat (first | ((with_reducible refine AWp.ofC ?_ ?_); (focus exact rfl); simp only [go_sem, hki, hEl, hge]) | ((with_reducible refine an ?_ ?_); focus exact Au))
              repeat ((with_reducible refine an ?_ ?_); focus exact As)
              refine (hW).val.use ?_; simp only [go_sem]
              repeat (first | ((with_reducible refine AWp.ofC ?_ ?_); (focus exact rfl); simp only [go_sem]) | ((with_reducible refine an ?_ ?_); focus exact Au))
              repeat ((with_reducible refine an ?_ ?_); focus exact As)
              refine (hFk).val.use ?_; simp only [go_sem, hgj, hrl, d2]
              repeat (first | ((with_reducible refine AWp.ofC ?_ ?_); (focus exact rfl); simp only [go_sem]) | ((with_reducible refine an ?_ ?_); focus exact Au))
              exact ⟨_, List.Sublist.refl _, k - 1, by omega, q + 1, rfl, by omega, rfl, hno'⟩
          · exfalso
            rw [List.find?_eq_some_iff_getElem] at hfe
            obtain ⟨g1, i, hi, g2, _⟩ := hfe
            have := hno i hi (by omega)
            rw [g2] at this
            rw [this] at g1; cases g1
  | succ i =>
    have z : (0 : Int) ≤ (i : Int) := by omega
    have hm1 : ((i + 1 : Nat) : Int) - 1 = (i : Int) := by omega
    have hil : i < m.length := by omega
    have hgi := getD_map (f := aInts) hil
    have hAi := hAm m[i]
    rw [hm1]
    have hF : isF ps m[i] = true := (hm _).1 (List.getElem_mem hil)
    have hcl := (isF_iff.1 hF).1
    have hcb := isF_cb hs hF
    have hcsum := fun hne : ¬ i = m.length - 1 => show m[i].sum < off ps ps.length by
      have h1 := leq_sum (leq_full hF)
      rw [fullC_sum] at h1
      have h2 : ¬ m[i].sum = off ps ps.length := fun e => by
        have h3 := (full_of_sum hF).2 e
        rw [List.getD_eq_getElem?_getD, List.getElem?_eq_getElem (show m.length - 1 < m.length by omega)] at hlast
        have hlast : m[m.length - 1] = fullC ps := hlast
        have h4 := List.pairwise_iff_getElem.1 hord i (m.length - 1) hil (by omega) (by omega)
        rw [h3, hlast] at h4
        exact ordL_irr h4
      omega
    have hopn : opnV ps (badB l) m[i] = ((decide (i = m.length - 1) || (enF ps m[i] m[i].length).any fun p => opnV ps (badB l) (stpC m[i] p)) && !badB l m[i]) := by
      by_cases e : i = m.length - 1
      · rw [decide_eq_true e, Bool.true_or, Bool.true_and]
        subst e
        rw [List.getD_eq_getElem?_getD, List.getElem?_eq_getElem hil] at hlast
        have hlast : m[m.length - 1] = fullC ps := hlast
        rw [hlast]
        exact opnV_full (fullC_sum ps)
      · rw [decide_eq_false e, Bool.false_or, opnV_stp hF (hcsum e), Bool.and_comm]
    cases hb : badB l m[i] with
    | true =>
      rw [hb] at hAi hopn
      rw [Bool.not_true, Bool.and_false] at hopn
      have hkp : opR ps l m i = opR ps l m (i + 1) := by rw [← opR_keep hil]; exact (opR_set hil hopn.symm).symm
      simp only [go_sem]
      repeat (first | ((with_reducible refine AWp.ofC ?_ ?_); (focus exact rfl); simp only [go_sem, z, hgi]) | ((with_reducible refine an ?_ ?_); focus exact Au))
      repeat ((with_reducible refine an ?_ ?_); focus exact As)
      refine (hAi).val.use ?_; simp only [go_sem]
      repeat (first | ((with_reducible refine AWp.ofC ?_ ?_); (focus exact rfl); simp only [go_sem]) | ((with_reducible refine an ?_ ?_); focus exact Au))
      exact ⟨_, List.Sublist.refl _, i, by omega, rfl, by omega, by rw [hkp]⟩
    | false =>
      rw [hb] at hAi hopn
      rw [Bool.not_false, Bool.and_true] at hopn
      have hgo := opR_get (ps := ps) (l := l) (i := i + 1) hil
      rw [decide_eq_false (by omega), Bool.false_and] at hgo
      have heni := hen m[i] hF
      have hsti := hstep i hil
      have hrl := opR_len ps l m (i + 1)
      simp only [go_sem]
      repeat (first | ((with_reducible refine AWp.ofC ?_ ?_); (focus exact rfl); simp only [go_sem, z, hgi]) | ((with_reducible refine an ?_ ?_); focus exact Au))
      repeat ((with_reducible refine an ?_ ?_); focus exact As)
      refine (hAi).val.use ?_; simp only [go_sem]
      repeat ((with_reducible refine an ?_ ?_); focus exact As)
      refine AWp.of ?_; simp only [go_sem]
      refine AWp.cut [1, 2, 3, 8, 9] (fun vs L => vs = [.sl 1 (m.map aInts), .sl 1 (l.map aInts), .rp 1 [aTr ps] 0 0, .ls b19 1 0 m.length m.length, ai i] ∧ L = [(b19, .row 4 1 ((opR ps l m (i + 1)).set i (ab (decide (i = m.length - 1)))) m.length)]) ?_ ?_
      · by_cases e : i = m.length - 1
        · have hie : (i : Int) = (m.length : Int) - 1 := by omega
          have hix : ((m.length : Int) - 1).toNat = i := by omega
          rw [decide_eq_true e]
          repeat (first | ((with_reducible refine AWp.ofC ?_ ?_); (focus exact rfl); simp only [go_sem, hie, hix, hgo, hrl]) | ((with_reducible refine an ?_ ?_); focus exact Au))
          exact ⟨_, List.Sublist.refl _, rfl⟩
        · have hie : ¬ (i : Int) = (m.length : Int) - 1 := by omega
          rw [decide_eq_false e, opR_keep hil]
          repeat (first | ((with_reducible refine AWp.ofC ?_ ?_); (focus exact rfl); simp only [go_sem, hie]) | ((with_reducible refine an ?_ ?_); focus exact Au))
          exact ⟨_, List.Sublist.refl _, rfl⟩
      · rintro vs L - ⟨rfl, rfl⟩
        have hset := fun b hb => opR_set (ps := ps) (l := l) hil (b := b) hb
        rw [hopn] at hset
        have hset := hset _ rfl
        have hEI : enI ps m[i] m[i].length = (enF ps m[i] m[i].length).map fun (p : Nat) => (p : Int) := rfl
        rw [hEI] at heni
        have hmE : ∀ p ∈ enF ps m[i] m[i].length, p < m[i].length := fun p hp => (mem_enF.1 hp).1
        have hWi := fun (p : Nat) (hp : p < m[i].length) => ref22_With m[i] hcb p hp
        have hlen := enF_len ps m[i] m[i].length
        have hgj0 := fun (j : Nat) (hj : j < m.length) (X : AV) (hij : i < j) => (getD_set_ne' (r := opR ps l m (i + 1)) (show i ≠ j by omega) X).trans (opR_get hj)
        clear hEI hopn hcsum
        generalize decide (i = m.length - 1) = on at *
        generalize enF ps m[i] m[i].length = E at *
        generalize m[i] = c at *
        have hEl : ((E.map fun (p : Nat) => (p : Int)).map ai).length = E.length := by rw [List.length_map, List.length_map]
        simp only [go_sem]
        repeat (first | (with_reducible refine AWp.seq ?_) | (with_reducible refine AWp.block ?_))
        refine AWp.read mixed [0, 1, 2, 3, 4, 5, 6] (by kernel_rfl) ?_; simp only [go_sem, hgi]
        repeat ((with_reducible refine an ?_ ?_); focus exact As)
        refine GCall.use (aInts (E.map fun (p : Nat) => (p : Int))) (fun _ => ⟨At, (heni).val.use ⟨rfl, rfl⟩⟩) ?_; simp only [go_sem]
        repeat (first | ((with_reducible refine AWp.ofC ?_ ?_); (focus exact rfl); simp only [go_sem]) | ((with_reducible refine an ?_ ?_); focus exact Au))
        refine AWp.block (AWp.count 11 E.length [] [1, 2, 3, 8, 9, 10] (fun k vs L => L = [(b19, .row 4 1 ((opR ps l m (i + 1)).set i (ab (on || (E.take k).any fun p => opnV ps (badB l) (stpC c p)))) m.length)]) rfl rfl (by rw [List.take_zero]; simp only [List.any_nil, Bool.or_false]) ?_)
        rintro k vs L hk - rfl
        simp only [go_sem]
        by_cases hkE : k < E.length
        · have hki : (k : Int) < (E.length : Int) := by omega
          have hp : E[k] ∈ E := List.getElem_mem hkE
          have hpc := hmE _ hp
          have hge : ((E.map fun (p : Nat) => (p : Int)).map ai).getD k .any = ai (E[k] : Nat) := by
            rw [List.map_map]; exact getD_map (f := fun (p : Nat) => ai p) hkE
          have hW := hWi _ hpc
          have hFk := hFi (stpC c E[k])
          obtain ⟨j1, j2, j3⟩ := hsti _ hp
          have hix : idxF m (stpC c E[k]) = (idxN m (stpC c E[k]) : Int) := by unfold idxN at *; omega
          rw [hix] at hFk
          have hgj := hgj0 _ j2 (ab (on || (E.take k).any fun p => opnV ps (badB l) (stpC c p))) j1
          rw [decide_eq_true (by omega), Bool.true_and, j3] at hgj
          have hany : (on || (E.take (k + 1)).any fun p => opnV ps (badB l) (stpC c p)) = ((on || (E.take k).any fun p => opnV ps (badB l) (stpC c p)) || opnV ps (badB l) (stpC c E[k])) := by
            rw [List.take_succ_eq_append_getElem hkE, List.any_append]
            simp [Bool.or_assoc]
          clear hgj0 hset j3 hsti
          generalize (on || (E.take k).any fun p => opnV ps (badB l) (stpC c p)) = x at *
          generalize opnV ps (badB l) (stpC c E[k]) = y at *
          generalize idxN m (stpC c E[k]) = j at *
          generalize stpC c E[k] = d at *
          have hrl2 : ((opR ps l m (i + 1)).set i (ab x)).length = m.length := by rw [List.length_set, hrl]
          have hgo2 : ((opR ps l m (i + 1)).set i (ab x)).getD i .any = ab x := by
            rw [List.getD_eq_getElem?_getD, List.getElem?_set_self (by omega)]; rfl
          have hss : ((opR ps l m (i + 1)).set i (ab x)).set i (ab true) = (opR ps l m (i + 1)).set i (ab true) := by rw [List.set_set]
          generalize hrow : (opR ps l m (i + 1)).set i (ab x) = row at *
          cases y with
          | false =>
            repeat (first | ((with_reducible refine AWp.ofC ?_ ?_); (focus exact rfl); simp only [go_sem, hki, hEl]) | ((with_reducible refine an ?_ ?_); focus exact Au))
            repeat (first | (with_reducible refine AWp.seq ?_) | (with_reducible refine AWp.block ?_))
            refine AWp.read mixed [0, 1, 2, 3, 4, 5, 6, 7, 8, 9, 10, 11, 12, 13] (by kernel_rfl) ?_; simp only [go_sem, hgi, hge]
            repeat ((with_reducible refine an ?_ ?_); focus exact As)
            refine GCall.use (aInts d) (fun _ => ⟨At, (hW).val.use ⟨rfl, rfl⟩⟩) ?_; simp only [go_sem]
            repeat ((with_reducible refine an ?_ ?_); focus exact As)
            refine GCall.use (ai j) (fun _ => ⟨At, (hFk).val.use ⟨rfl, rfl⟩⟩) ?_; simp only [go_sem, hgj, hrl2]
            repeat (first | ((with_reducible refine AWp.ofC ?_ ?_); (focus exact rfl); simp only [go_sem, hrl2]) | ((with_reducible refine an ?_ ?_); focus exact Au))
            rw [Bool.or_false] at hany
            exact ⟨_, List.Sublist.refl _, by rw [hany, hrow]⟩
          | true =>
            repeat (first | ((with_reducible refine AWp.ofC ?_ ?_); (focus exact rfl); simp only [go_sem, hki, hEl]) | ((with_reducible refine an ?_ ?_); focus exact Au))
            repeat (first | (with_reducible refine AWp.seq ?_) | (with_reducible refine AWp.block ?_))
            refine AWp.read mixed [0, 1, 2, 3, 4, 5, 6, 7, 8, 9, 10, 11, 12, 13] (by kernel_rfl) ?_; simp only [go_sem, hgi, hge]
            repeat ((with_reducible refine an ?_ ?_); focus exact As)
            refine GCall.use (aInts d) (fun _ => ⟨At, (hW).val.use ⟨rfl, rfl⟩⟩) ?_; simp only [go_sem]
            repeat ((with_reducible refine an ?_ ?_); focus exact As)
            refine GCall.use (ai j) (fun _ => ⟨At, (hFk).val.use ⟨rfl, rfl⟩⟩) ?_; simp only [go_sem, hgj, hrl2]
            repeat (first | ((with_reducible refine AWp.ofC ?_ ?_); (focus exact rfl); simp only [go_sem, hrl2, hgo2]) | ((with_reducible refine an ?_ ?_); focus exact Au))
            rw [Bool.or_true] at hany
            exact ⟨_, List.Sublist.refl _, by rw [hany, ← hss]⟩
        · have hki : ¬ (k : Int) < (E.length : Int) := by omega
          have : k = E.length := by omega
          subst this
          rw [List.take_length, hset]
          repeat (first | ((with_reducible refine AWp.ofC ?_ ?_); (focus exact rfl); simp only [go_sem, hki, hEl]) | ((with_reducible refine an ?_ ?_); focus exact Au))
          exact ⟨_, List.Sublist.refl _, i, by omega, rfl, by omega, rfl⟩
end Go.AL
end
