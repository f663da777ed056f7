/- Texts of this claim's proof: WCut+1, WCut2+1, WStp2+1, WRf8+1, WDl+1, WJn+1, WTl+1, WEf+1, WEl+1, WBd+1, WCl+1, WSb+1, WSr+1, WWl+1, WSp+1, WBig+1, WHu+1, AlBr2+1, WRt+1, WRt2+1, AlGrd. No condition. -/
import Derived.Test.YtceeooppejjliaaGreatDoorM0
import Derived.Test.YtceeooppejjliaaGreatDoorM1
import Derived.Test.YtceeooppejjliaaGreatDoorM2
import Derived.Test.YtceeooppejjliaaGreatDoorM3
import Derived.Test.YtceeooppejjliaaGreatDoorM4
import Derived.Test.YtceeooppejjliaaGreatDoorM5
import Derived.Test.YtceeooppejjliaaGreatDoorM6
import Derived.Test.YtceeooppejjliaaGreatDoorM7
import Derived.Test.YtceeooppejjliaaGreatDoorM8
import Derived.Test.YtceeooppejjliaaGreatDoorM9
import Derived.Test.YtceeooppejjliaaGreatDoorM10
import Derived.Test.YtceeooppejjliaaGreatDoorM11
import Derived.Test.YtceeooppejjliaaGreatDoorM12
import Derived.Test.YtceeooppejjliaaGreatDoorM13
import Derived.Test.YtceeooppejjliaaGreatDoorM14
section
namespace Go.AL
open Go Go.RowKit
set_option maxRecDepth 4000
theorem cut_process (ps : List Pr) (p : Int) : PC Go.Proofs.Tryz.prog 198 [aTr ps, ai p] (ab (decide (0 ≤ p) && decide (p < ps.length))) := by
  refine PC.enter 14 [.tmp 4] [2] Go.Proofs.Tryz.func198 rfl rfl rfl rfl rfl (by simp) (AWp.of ?_); simp only [go_sem]
  repeat (first | ((with_reducible refine AWp.ofC ?_ ?_); exact rfl; simp only [go_sem]) | ((with_reducible refine an ?_ ?_); exact Au))
  refine ret_eq ?_; simp only [go_sem]
end Go.AL
end
section
namespace Go.AL
open Go Go.RowKit
set_option maxRecDepth 4000
theorem closedF_iff (ps : List Pr) (c : List Int) : closedF ps c = (missF ps c).isNone := by
  unfold closedF missF
  cases h : (evIds ps).find? (badEv ps c) with
  | none =>
    rw [List.find?_eq_none] at h
    have : (evIds ps).any (badEv ps c) = false := by rw [List.any_eq_false]; exact h
    rw [this]; rfl
  | some x =>
    have : (evIds ps).any (badEv ps c) = true := List.any_eq_true.2 ⟨x, List.mem_of_find?_eq_some h, List.find?_some h⟩
    rw [this]; rfl
theorem cut_closed (ps : List Pr) (hs : Sm ps) (c : List Int) (hv : validF ps = true) (hc : c.length = ps.length) (hr : inRangeF ps c = true) : PC Go.Proofs.Tryz.prog 199 [aTr ps, aInts c] (ab (closedF ps c)) := by
  have hm := cut_missing ps hs c hv hc hr
  rw [closedF_iff]
  unfold aMiss at hm
  refine PC.enter 17 [.tmp 4] [2, 5, 6] Go.Proofs.Tryz.func199 rfl rfl rfl rfl rfl (by simp) (AWp.of ?_); simp only [go_sem]
  repeat (first | ((with_reducible refine AWp.ofC ?_ ?_); exact rfl; simp only [go_sem]) | ((with_reducible refine an ?_ ?_); exact Au))
  cases h : missF ps c with
  | none =>
    rw [h] at hm
    repeat ((with_reducible refine an ?_ ?_); exact As)
    refine (hm).val.use ?_; simp only [go_sem]
    repeat ((with_reducible refine an ?_ ?_); exact As)
    intro b5 b6 h6
    have n56 : ¬ b5 = b6 := by omega
    have n65 : ¬ b6 = b5 := by omega
    simp only [go_sem, n56]
    repeat (first | ((with_reducible refine AWp.ofC ?_ ?_); exact rfl; simp only [go_sem]) | ((with_reducible refine an ?_ ?_); exact Au))
    refine ret_eq ?_; simp only [go_sem]
    rfl
  | some x =>
    obtain ⟨a, b⟩ := x
    rw [h] at hm
    repeat ((with_reducible refine an ?_ ?_); exact As)
    refine (hm).val.use ?_; simp only [go_sem]
    repeat ((with_reducible refine an ?_ ?_); exact As)
    intro b5 b6 h6
    have n56 : ¬ b5 = b6 := by omega
    have n65 : ¬ b6 = b5 := by omega
    simp only [go_sem, n56]
    repeat (first | ((with_reducible refine AWp.ofC ?_ ?_); exact rfl; simp only [go_sem]) | ((with_reducible refine an ?_ ?_); exact Au))
    refine ret_eq ?_; simp only [go_sem]
    rfl
theorem sizedF_inv {ps : List Pr} {l : List (List Int)} (h : sizedF ps l = true) : validF ps = true ∧ ∀ c ∈ l, c.length = ps.length := by
  unfold sizedF at h
  rw [Bool.and_eq_true] at h
  refine ⟨h.1, fun c hc => ?_⟩
  have := h.2
  rw [Bool.not_eq_true', List.any_eq_false] at this
  simpa using this c hc
theorem all_of_lt {α : Type} {l : List α} {p : α → Bool} (h : ∀ (i : Nat) (hi : i < l.length), p l[i] = true) : l.all p = true := by
  rw [List.all_eq_true]; intro x hx; obtain ⟨i, hi, rfl⟩ := List.getElem_of_mem hx; exact h i hi
theorem all_false_at {α : Type} {l : List α} {p : α → Bool} {i : Nat} (hi : i < l.length) (h : p l[i] = false) : l.all p = false := by
  rw [List.all_eq_false]; exact ⟨l[i], List.getElem_mem hi, by simp [h]⟩
theorem cut_given (ps : List Pr) (hs : Sm ps) (l : List (List Int)) (hl : l.length ≤ 1000000) (procs : List Int) (hp : procs.length ≤ 1000000) : PC Go.Proofs.Tryz.prog 158 [aTr ps, aRows l, aInts procs] (ai (givenF ps l procs)) := by
  refine PC.enter 50 [.tmp 6] [3] Go.Proofs.Tryz.func158 rfl rfl rfl rfl rfl (by simp) (AWp.of ?_); simp only [go_sem]
  repeat (first | ((with_reducible refine AWp.ofC ?_ ?_); exact rfl; simp only [go_sem]) | ((with_reducible refine an ?_ ?_); exact Au))
  repeat ((with_reducible refine an ?_ ?_); exact As)
  refine (cut_sized ps hs l hl).val.use ?_; simp only [go_sem]
  repeat (first | ((with_reducible refine AWp.ofC ?_ ?_); exact rfl; simp only [go_sem]) | ((with_reducible refine an ?_ ?_); exact Au))
  refine ⟨fun h1 => ?_, fun h1 => ?_⟩
  · repeat (first | ((with_reducible refine AWp.ofC ?_ ?_); exact rfl; simp only [go_sem]) | ((with_reducible refine an ?_ ?_); exact Au))
    refine ret_eq ?_; simp only [go_sem]
    unfold givenF; rw [if_pos (by simp [h1])]
  · obtain ⟨hv, hc⟩ := sizedF_inv h1
    repeat ((with_reducible refine an ?_ ?_); exact As)
    refine AWp.of ?_; simp only [go_sem]
    refine AWp.range' l.length [] [1, 2, 3, 17, 18] (fun k vs L => L = [] ∧ ∀ (i : Nat) (hi : i < l.length), i < k → inRangeF ps l[i] = true) (by omega) rfl rfl rfl ⟨rfl, by omega⟩ ?_ ?_
    · rintro k vs L' hk - ⟨rfl, hI⟩
      simp only [go_sem]
      repeat ((with_reducible refine an ?_ ?_); exact As)
      refine AWp.of ?_; simp only [go_sem, getD_map hk]
      repeat (first | ((with_reducible refine AWp.ofC ?_ ?_); exact rfl; simp only [go_sem]) | ((with_reducible refine an ?_ ?_); exact Au))
      repeat ((with_reducible refine an ?_ ?_); exact As)
      refine (cut_inRange ps hs l[k] (hc _ (List.getElem_mem hk))).val.use ?_; simp only [go_sem]
      repeat (first | ((with_reducible refine AWp.ofC ?_ ?_); exact rfl; simp only [go_sem]) | ((with_reducible refine an ?_ ?_); exact Au))
      refine ⟨fun h2 => ?_, fun h2 => ?_⟩
      · repeat (first | ((with_reducible refine AWp.ofC ?_ ?_); exact rfl; simp only [go_sem]) | ((with_reducible refine an ?_ ?_); exact Au))
        refine ret_eq ?_; simp only [go_sem]
        unfold givenF; rw [if_neg (by simp [h1]), if_pos (by rw [all_false_at hk h2]; rfl)]
      · refine ⟨_, List.Sublist.refl _, rfl, fun i hi hik => ?_⟩
        by_cases e : i = k
        · subst e; exact h2
        · exact hI i hi (by omega)
    · rintro vs L' - ⟨rfl, hI⟩
      have ha := all_of_lt (p := inRangeF ps) (fun i hi => hI i hi hi)
      simp only [go_sem]
      repeat ((with_reducible refine an ?_ ?_); exact As)
      refine AWp.of ?_; simp only [go_sem]
      refine AWp.range' procs.length [] [1, 3, 28, 29] (fun k vs L => L = [] ∧ ∀ (i : Nat) (hi : i < procs.length), i < k → (decide (0 ≤ procs[i]) && decide (procs[i] < ps.length)) = true) (by omega) rfl rfl rfl ⟨rfl, by omega⟩ ?_ ?_
      · rintro k vs L' hk - ⟨rfl, hI⟩
        simp only [go_sem]
        repeat ((with_reducible refine an ?_ ?_); exact As)
        refine AWp.of ?_; simp only [go_sem, getD_map hk]
        repeat (first | ((with_reducible refine AWp.ofC ?_ ?_); exact rfl; simp only [go_sem]) | ((with_reducible refine an ?_ ?_); exact Au))
        repeat ((with_reducible refine an ?_ ?_); exact As)
        refine (cut_process ps procs[k]).val.use ?_; simp only [go_sem]
        repeat (first | ((with_reducible refine AWp.ofC ?_ ?_); exact rfl; simp only [go_sem]) | ((with_reducible refine an ?_ ?_); exact Au))
        refine ⟨fun h2 => ?_, fun h2 h3 => ?_⟩
        · repeat (first | ((with_reducible refine AWp.ofC ?_ ?_); exact rfl; simp only [go_sem]) | ((with_reducible refine an ?_ ?_); exact Au))
          refine ret_eq ?_; simp only [go_sem]
          unfold givenF; rw [if_neg (by simp [h1]), if_neg (by simp [ha]), if_pos (by rw [all_false_at hk (by simpa using h2)]; rfl)]
        · refine ⟨_, List.Sublist.refl _, rfl, fun i hi hik => ?_⟩
          by_cases e : i = k
          · subst e; exact ⟨h2, h3⟩
          · have := hI i hi (by omega); simpa using this
      · rintro vs L' - ⟨rfl, hI⟩
        have hb := all_of_lt (l := procs) (p := fun p => decide (0 ≤ p) && decide (p < (ps.length : Int))) (fun i hi => by have := hI i hi hi; simpa using this)
        simp only [go_sem]
        repeat ((with_reducible refine an ?_ ?_); exact As)
        refine AWp.of ?_; simp only [go_sem]
        refine AWp.range' l.length [] [3, 39, 40] (fun k vs L => L = [] ∧ ∀ (i : Nat) (hi : i < l.length), i < k → closedF ps l[i] = true) (by omega) rfl rfl rfl ⟨rfl, by omega⟩ ?_ ?_
        · rintro k vs L' hk - ⟨rfl, hI⟩
          have hir : inRangeF ps l[k] = true := by rw [List.all_eq_true] at ha; exact ha _ (List.getElem_mem hk)
          simp only [go_sem]
          repeat ((with_reducible refine an ?_ ?_); exact As)
          refine AWp.of ?_; simp only [go_sem, getD_map hk]
          repeat (first | ((with_reducible refine AWp.ofC ?_ ?_); exact rfl; simp only [go_sem]) | ((with_reducible refine an ?_ ?_); exact Au))
          repeat ((with_reducible refine an ?_ ?_); exact As)
          refine (cut_closed ps hs l[k] hv (hc _ (List.getElem_mem hk)) hir).val.use ?_; simp only [go_sem]
          repeat (first | ((with_reducible refine AWp.ofC ?_ ?_); exact rfl; simp only [go_sem]) | ((with_reducible refine an ?_ ?_); exact Au))
          refine ⟨fun h2 => ?_, fun h2 => ?_⟩
          · repeat (first | ((with_reducible refine AWp.ofC ?_ ?_); exact rfl; simp only [go_sem]) | ((with_reducible refine an ?_ ?_); exact Au))
            refine ret_eq ?_; simp only [go_sem]
            unfold givenF; rw [if_neg (by simp [h1]), if_neg (by simp [ha]), if_neg (by rw [hb]; decide), if_pos (by rw [all_false_at hk h2]; rfl)]
          · refine ⟨_, List.Sublist.refl _, rfl, fun i hi hik => ?_⟩
            by_cases e : i = k
            · subst e; exact h2
            · exact hI i hi (by omega)
        · rintro vs L' - ⟨rfl, hI⟩
          have hd := all_of_lt (p := closedF ps) (fun i hi => hI i hi hi)
          simp only [go_sem]
          repeat (first | ((with_reducible refine AWp.ofC ?_ ?_); exact rfl; simp only [go_sem]) | ((with_reducible refine an ?_ ?_); exact Au))
          refine ret_eq ?_; simp only [go_sem]
          unfold givenF; rw [if_neg (by simp [h1]), if_neg (by simp [ha]), if_neg (by rw [hb]; decide), if_neg (by rw [hd]; decide)]
end Go.AL
end
section
namespace Go.AL
open Go Go.RowKit
set_option maxRecDepth 4000
theorem sum_nonneg : ∀ (Z : List Int), (∀ z ∈ Z, 0 ≤ z) → 0 ≤ Z.sum
  | [], _ => by simp
  | z :: Z, h => by
    have h1 := h z (by simp)
    have h2 := sum_nonneg Z fun z hz => h z (List.mem_cons_of_mem _ hz)
    simp only [List.sum_cons]; omega
theorem sum_ge : ∀ (Z : List Int) {x : Int}, (∀ z ∈ Z, 0 ≤ z) → x ∈ Z → x ≤ Z.sum
  | [], _, _, hx => by cases hx
  | z :: Z, x, h, hx => by
    have h1 := h z (by simp)
    have h2 := sum_nonneg Z fun z hz => h z (List.mem_cons_of_mem _ hz)
    simp only [List.sum_cons]
    rcases List.mem_cons.1 hx with rfl | hx
    · omega
    · have := sum_ge Z (fun z hz => h z (List.mem_cons_of_mem _ hz)) hx; omega
end Go.AL
end
section
namespace Go.AL
open Go Go.RowKit
set_option maxRecDepth 4000
theorem cntOk_get {ps : List Pr} {c : List Int} {p : Nat} (hp : p < ps.length) (hc : p < c.length) : cntOk ps c p = (decide (0 ≤ c[p]) && decide (c[p] ≤ ps[p].evs.length)) := by
  simp only [cntOk, List.getElem?_eq_getElem hp, List.getElem?_eq_getElem hc]
theorem ref12_Cut (ps : List Pr) (hs : Sm ps) (c : List Int) : PC Go.Proofs.Tryz.prog 109 [aTr ps, aInts c] (ab (decide (c.length = ps.length) && inRangeF ps c)) := by
  have hl := hs.procs
  refine PC.enter 37 [.tmp 4] [2] Go.Proofs.Tryz.func109 rfl rfl rfl rfl rfl (by simp) (AWp.of ?_); simp only [go_sem]
  repeat (first | ((with_reducible refine AWp.ofC ?_ ?_); exact rfl; simp only [go_sem]) | ((with_reducible refine an ?_ ?_); exact Au))
  repeat (first | ((with_reducible refine AWp.ofC ?_ ?_); exact rfl; simp only [go_sem]) | ((with_reducible refine an ?_ ?_); exact Au))
  refine ⟨fun h1 => ?_, fun h1 => ?_⟩
  · repeat (first | ((with_reducible refine AWp.ofC ?_ ?_); exact rfl; simp only [go_sem]) | ((with_reducible refine an ?_ ?_); exact Au))
    refine ret_eq ?_; simp only [go_sem]
    rw [decide_eq_false (by omega)]; rfl
  · have hc : c.length = ps.length := by omega
    repeat (first | ((with_reducible refine AWp.ofC ?_ ?_); exact rfl; simp only [go_sem]) | ((with_reducible refine an ?_ ?_); exact Au))
    refine AWp.block (AWp.count 5 c.length [] [1, 2] (fun p vs L => L = [] ∧ ∀ q, q < p → cntOk ps c q = true) rfl rfl ⟨rfl, by omega⟩ ?_)
    rintro p vs L hp - ⟨rfl, hI⟩
    simp only [go_sem]
    repeat (first | ((with_reducible refine AWp.ofC ?_ ?_); exact rfl; simp only [go_sem]) | ((with_reducible refine an ?_ ?_); exact Au))
    refine ⟨fun h2 => ?_, fun h2 => ?_⟩
    · have hpc : p < c.length := by omega
      have hpp : p < ps.length := by omega
      have hco := cntOk_get hpp hpc
      have hgP := getD_map (f := aPr) hpp
      have hgc := getD_map (f := ai) hpc
      refine AWp.seq (AWp.block (AWp.seq ?_))
      refine AWp.drawn mixed 18 (by kernel_rfl) ?_; simp only [go_sem, hgP, hgc]
      repeat ((with_reducible refine an ?_ ?_); exact As)
      repeat (first | ((with_reducible refine AWp.ofC ?_ ?_); exact rfl; simp only [go_sem]) | ((with_reducible refine an ?_ ?_); exact Au))
      refine ⟨fun h3 => ?_, fun h3 => ?_⟩
      · repeat (first | ((with_reducible refine AWp.ofC ?_ ?_); exact rfl; simp only [go_sem]) | ((with_reducible refine an ?_ ?_); exact Au))
        refine ret_eq ?_; simp only [go_sem]
        have : inRangeF ps c = false := by
          unfold inRangeF
          rw [List.all_eq_false]
          refine ⟨p, List.mem_range.2 hpc, ?_⟩
          rw [hco]
          simp only [Bool.and_eq_true, decide_eq_true_eq]
          omega
        rw [this, Bool.and_false]
      · intro h4
        repeat (first | ((with_reducible refine AWp.ofC ?_ ?_); exact rfl; simp only [go_sem]) | ((with_reducible refine an ?_ ?_); exact Au))
        refine ⟨_, List.Sublist.refl _, rfl, fun q hq => ?_⟩
        by_cases e : q = p
        · subst e; rw [hco]; simp only [Bool.and_eq_true, decide_eq_true_eq]; omega
        · exact hI q (by omega)
    · repeat (first | ((with_reducible refine AWp.ofC ?_ ?_); exact rfl; simp only [go_sem]) | ((with_reducible refine an ?_ ?_); exact Au))
      refine ret_eq ?_; simp only [go_sem]
      have : inRangeF ps c = true := by
        unfold inRangeF
        rw [List.all_eq_true]
        exact fun q hq => hI q (by have := List.mem_range.1 hq; omega)
      rw [this, decide_eq_true hc]; rfl
theorem ref12_Consistent (ps : List Pr) (hs : Sm ps) (hn : 1 ≤ ps.length) (c : List Int) (hc : c.length = ps.length) (hr : inRangeF ps c = true) : PC Go.Proofs.Tryz.prog 110 [aTr ps, aInts c] (ab (closedF ps c)) := by
  have hl := hs.procs
  refine PC.enter 47 [.tmp 4] [2, 7, 8] Go.Proofs.Tryz.func110 rfl rfl rfl rfl rfl (by simp) (AWp.of ?_); simp only [go_sem]
  repeat (first | ((with_reducible refine AWp.ofC ?_ ?_); exact rfl; simp only [go_sem]) | ((with_reducible refine an ?_ ?_); exact Au))
  refine AWp.block (AWp.count 5 c.length [] [1, 2] (fun p vs L => L = [] ∧ Ahead ps (fun q j => badEv ps c (((q : Int), (j : Int) + 1), evq ps q j) = false) p 0) rfl rfl ⟨rfl, fun _ _ _ h => by omega, fun j hj => by omega⟩ ?_)
  rintro p vs L hp - ⟨rfl, hA⟩
  simp only [go_sem]
  repeat (first | ((with_reducible refine AWp.ofC ?_ ?_); exact rfl; simp only [go_sem]) | ((with_reducible refine an ?_ ?_); exact Au))
  refine ⟨fun h1 => ?_, fun h1 => ?_⟩
  · have hpc : p < c.length := by omega
    have hpp : p < ps.length := by omega
    have hgP := getD_map (f := aPr) hpp
    have hgc := getD_map (f := ai) hpc
    have hel := hs.evs _ (List.getElem_mem hpp)
    obtain ⟨hr1, hr2⟩ := inRangeF_get hr hc hpp
    repeat (first | ((with_reducible refine AWp.ofC ?_ ?_); exact rfl; simp only [go_sem]) | ((with_reducible refine an ?_ ?_); exact Au))
    refine AWp.block (AWp.count 6 c[p].toNat [] [1, 2, 5] (fun i vs L => L = [] ∧ Ahead ps (fun q j => badEv ps c (((q : Int), (j : Int) + 1), evq ps q j) = false) p i) rfl rfl ⟨rfl, hA⟩ ?_)
    rintro i vs L hi - ⟨rfl, hB⟩
    simp only [go_sem]
    repeat (first | ((with_reducible refine AWp.ofC ?_ ?_); exact rfl; simp only [go_sem, hgc]) | ((with_reducible refine an ?_ ?_); exact Au))
    refine ⟨fun h2 => ?_, fun h2 => ?_⟩
    · have hie : i < ps[p].evs.length := by omega
      have hge := getD_map (f := aEv) hie
      have hbad : badEv ps c (((p : Int), (i : Int) + 1), evq ps p i) = (decide (ps[p].evs[i].kind = 3) && decide (cAt c (findIn (evIds ps) 2 ps[p].evs[i].msg).1 < (findIn (evIds ps) 2 ps[p].evs[i].msg).2)) := by
        rw [evq_get hpp hie]
        simp only [badEv, cAt_nat hpc, decide_eq_true (show (i : Int) + 1 ≤ c[p] by omega), Bool.and_true]
      have hev := evIds_get hpp hie
      have hq0 := evq_get hpp hie
      have hfd := ref12_Find ps hs 2 ps[p].evs[i].msg
      obtain ⟨f1, f2⟩ := findIn_proc hn 2 ps[p].evs[i].msg
      have hgs := getD_cAt (c := c) f1 (by omega)
      repeat (first | ((with_reducible refine AWp.ofC ?_ ?_); exact rfl; simp only [go_sem, hgP, hge]) | ((with_reducible refine an ?_ ?_); exact Au))
      intro b7
      repeat (first | ((with_reducible refine AWp.ofC ?_ ?_); exact rfl; simp only [go_sem]) | ((with_reducible refine an ?_ ?_); exact Au))
      refine ⟨fun h3 => ?_, fun h3 => ?_⟩
      · repeat (first | ((with_reducible refine AWp.ofC ?_ ?_); exact rfl; simp only [go_sem]) | ((with_reducible refine an ?_ ?_); exact Au))
        repeat ((with_reducible refine an ?_ ?_); exact As)
        refine (hfd).val.use ?_; simp only [go_sem]
        repeat ((with_reducible refine an ?_ ?_); exact As)
        intro b8
        refine AWp.seq ?_
        refine AWp.drawn mixed 7 (by kernel_rfl) ?_; simp only [go_sem, hgs]
        repeat ((with_reducible refine an ?_ ?_); exact As)
        repeat (first | ((with_reducible refine AWp.ofC ?_ ?_); exact rfl; simp only [go_sem]) | ((with_reducible refine an ?_ ?_); exact Au))
        refine ⟨fun h4 => ?_, fun h4 => ?_⟩
        · repeat (first | ((with_reducible refine AWp.ofC ?_ ?_); exact rfl; simp only [go_sem]) | ((with_reducible refine an ?_ ?_); exact Au))
          refine ret_eq ?_; simp only [go_sem]
          unfold closedF
          have : (evIds ps).any (badEv ps c) = true := List.any_eq_true.2 ⟨_, List.mem_of_getElem? hev, by rw [← hq0, hbad, decide_eq_true h3, decide_eq_true h4]; rfl⟩
          rw [this]; rfl
        · repeat (first | ((with_reducible refine AWp.ofC ?_ ?_); exact rfl; simp only [go_sem]) | ((with_reducible refine an ?_ ?_); exact Au))
          exact ⟨_, List.Sublist.refl _, rfl, hB.next (by rw [hbad, decide_eq_false h4, Bool.and_false])⟩
      · repeat (first | ((with_reducible refine AWp.ofC ?_ ?_); exact rfl; simp only [go_sem]) | ((with_reducible refine an ?_ ?_); exact Au))
        exact ⟨_, List.Sublist.refl _, rfl, hB.next (by rw [hbad, decide_eq_false h3]; rfl)⟩
    · repeat (first | ((with_reducible refine AWp.ofC ?_ ?_); exact rfl; simp only [go_sem]) | ((with_reducible refine an ?_ ?_); exact Au))
      refine ⟨_, List.Sublist.refl _, rfl, Ahead.row hpp ⟨hB.1, fun j hj => ?_⟩⟩
      by_cases e : j < i
      · exact hB.2 j e
      · simp only [badEv, cAt_nat hpc, decide_eq_false (show ¬ (j : Int) + 1 ≤ c[p] by omega), Bool.and_false, Bool.false_and]
  · repeat (first | ((with_reducible refine AWp.ofC ?_ ?_); exact rfl; simp only [go_sem]) | ((with_reducible refine an ?_ ?_); exact Au))
    refine ret_eq ?_; simp only [go_sem]
    unfold closedF
    have : (evIds ps).any (badEv ps c) = false := by
      rw [List.any_eq_false]
      intro x hx
      obtain ⟨k, hk⟩ := List.getElem?_of_mem hx
      obtain ⟨q, hq, j, hj, _, rfl⟩ := evIds_inv hk
      have := hA.1 q hq j (by omega) hj
      dsimp only at this
      rw [evq_get hq hj] at this
      rw [this]; decide
    rw [this]; rfl
end Go.AL
end
section
namespace Go.AL
open Go Go.RowKit
set_option maxRecDepth 4000
theorem fstF_zero {f : Nat → Int} {n : Nat} (h : fstF f n = 0) : ∀ i, i < n → f i = 0 := by
  intro i
  induction i using Nat.strongRecOn with
  | _ i ih =>
    intro hi
    by_cases h0 : f i = 0
    · exact h0
    · rw [fstF_hit hi (fun j hj => ih j hj (by omega)) h0] at h; exact h
theorem evF_parts {ps : List Pr} {p : Nat} (hp : p < ps.length) {i : Nat} (hi : i < ps[p].evs.length) : evF ps p i = 0 ↔ formedI ps.length p ps[p].evs[i] = true ∧ (0 ≤ ps[p].evs[i].time ∧ ps[p].evs[i].time ≤ 1099511627776 ∧ lastT ps[p].evs i ≤ ps[p].evs[i].time) ∧
    ps[p].evs[i].asg.length ≤ 8 ∧ ∀ k, k < ps[p].evs[i].asg.length → asgF ps[p].vars.length ps[p].evs[i].asg k = 0 := by
  have e : evF ps p i = if !formedI ps.length p ps[p].evs[i] then 3 else if !inI ps[p].evs[i].time 0 1099511627776 || decide (ps[p].evs[i].time < lastT ps[p].evs i) then 11 else if 8 < ps[p].evs[i].asg.length then 5 else fstF (asgF ps[p].vars.length ps[p].evs[i].asg) ps[p].evs[i].asg.length := by
    unfold evF; simp only [List.getElem?_eq_getElem hp, List.getElem?_eq_getElem hi]
  rw [e]
  constructor
  · intro h
    split at h
    · cases h
    · rename_i h1
      split at h
      · cases h
      · rename_i h2
        split at h
        · cases h
        · simp only [inI, Bool.or_eq_true, Bool.not_eq_true', not_or, Bool.not_eq_false, Bool.and_eq_true, decide_eq_true_eq] at h2
          exact ⟨by simpa using h1, ⟨h2.1.1, h2.1.2, by omega⟩, by omega, fstF_zero h⟩
  · rintro ⟨h1, ⟨h2, h3, h4⟩, h5, h6⟩
    rw [if_neg (by rw [h1]; decide), if_neg (by simp only [inI, Bool.or_eq_true, Bool.not_eq_true', not_or, Bool.not_eq_false, Bool.and_eq_true, decide_eq_true_eq]; omega), if_neg (by omega), fstF_none h6]
theorem evF_of_valid {ps : List Pr} (h : validF ps = true) {p : Nat} (hp : p < ps.length) {i : Nat} (hi : i < ps[p].evs.length) : evF ps p i = 0 := evFirst_get (valid_parts h).2.1 hp hi
theorem valid_cyc {ps : List Pr} (h : validF ps = true) : cycF ps = none := by
  obtain ⟨h1, h2, h3⟩ := valid_parts h
  unfold validF faultF at h
  rw [h1, h2, h3] at h
  simp only [decide_eq_true_eq] at h
  split at h
  · cases h
  · split at h
    · cases h
    · assumption
section
variable {ps : List Pr} {c : List Int}
end
end Go.AL
end
section
namespace Go.AL
open Go Go.RowKit
set_option maxRecDepth 4000
theorem givenL {ps : List Pr} {l : List (List Int)} : givenF ps l [] = 0 ↔ (validF ps = true ∧ ∀ c ∈ l, c.length = ps.length) ∧ (∀ c ∈ l, inRangeF ps c = true) ∧ ∀ c ∈ l, closedF ps c = true := by
  have h1 : sizedF ps l = true ↔ validF ps = true ∧ ∀ c ∈ l, c.length = ps.length := by
    refine ⟨sizedF_inv, fun h => ?_⟩
    unfold sizedF
    rw [h.1, Bool.true_and, Bool.not_eq_true', List.any_eq_false]
    intro c hc
    rw [decide_eq_true (h.2 c hc)]; decide
  have h2 := List.all_eq_true (l := l) (p := inRangeF ps)
  have h3 := List.all_eq_true (l := l) (p := closedF ps)
  rw [← h1, ← h2, ← h3]
  unfold givenF
  cases sizedF ps l <;> cases l.all (inRangeF ps) <;> cases l.all (closedF ps) <;> simp
end Go.AL
end
section
namespace Go.AL
open Go Go.RowKit
set_option maxRecDepth 4000
theorem closed_iff {ps : List Pr} {c : List Int} : closedF ps c = true ↔ ∀ (p : Nat) (hp : p < ps.length) (i : Nat) (hi : i < ps[p].evs.length), ps[p].evs[i].kind = 3 → (i : Int) + 1 ≤ cAt c p → (sndr ps ps[p].evs[i].msg).2 ≤ cAt c (sndr ps ps[p].evs[i].msg).1 := by
  unfold closedF
  rw [Bool.not_eq_true', List.any_eq_false]
  constructor
  · intro h p hp i hi hk hc
    have := h _ (List.mem_of_getElem? (evIds_get hp hi))
    unfold badEv at this
    simp only [Bool.and_eq_true, decide_eq_true_eq, not_and] at this
    have := this ⟨hk, hc⟩
    unfold sndr
    omega
  · intro h x hx
    obtain ⟨k, hk⟩ := List.getElem?_of_mem hx
    obtain ⟨p, hp, i, hi, _, rfl⟩ := evIds_inv hk
    unfold badEv
    simp only [Bool.and_eq_true, decide_eq_true_eq, not_and]
    rintro ⟨h1, h2⟩
    have := h p hp i hi h1 h2
    unfold sndr at this
    omega
section
variable {ps : List Pr} {c j : List Int}
end
end Go.AL
end
section
namespace Go.AL
open Go Go.RowKit
set_option maxRecDepth 4000
/-- It is the least closed one above the counts. -/
theorem closeF_ge {ps : List Pr} (hv : validF ps = true) {c : List Int} (hc : c.length = ps.length) (hr : inRangeF ps c = true) : ∀ p, p < ps.length → cAt c p ≤ cAt (closeF ps c) p := by
  refine miss_ind hv (M := fun c => ∀ p, p < ps.length → cAt c p ≤ cAt (closeF ps c) p) (fun c hc hr h p hp => ?_) (fun c hc hr x h hm p hp => ?_) c hc hr
  · rw [closeF_none h]; exact Int.le_refl _
  · rw [closeF_step hv hc hr h]
    refine Int.le_trans ?_ (hm p hp)
    obtain ⟨_, _, _, _, q, hq, j, hj, _, _, _, rfl, h1⟩ := miss_inv hv hc h
    rw [Int.toNat_natCast, cAt_nat (show p < (c.set q ((j : Int) + 1)).length by rw [List.length_set]; omega), List.getElem_set]
    split
    · rename_i e; subst e; omega
    · rw [cAt_nat (show p < c.length by omega)]; exact Int.le_refl _
theorem closeF_least {ps : List Pr} (hv : validF ps = true) {d : List Int} (_hd : d.length = ps.length) (hcl : closedF ps d = true) {c : List Int} (hc : c.length = ps.length) (hr : inRangeF ps c = true) :
    (∀ p, p < ps.length → cAt c p ≤ cAt d p) → ∀ p, p < ps.length → cAt (closeF ps c) p ≤ cAt d p := by
  refine miss_ind hv (M := fun c => (∀ p, p < ps.length → cAt c p ≤ cAt d p) → ∀ p, p < ps.length → cAt (closeF ps c) p ≤ cAt d p) (fun c hc hr h hle => ?_) (fun c hc hr x h hm hle => ?_) c hc hr
  · rw [closeF_none h]; exact hle
  · rw [closeF_step hv hc hr h]
    refine hm fun p hp => ?_
    obtain ⟨a, ha, i, hi, q, hq, j, hj, g1, g2, g3, rfl, h1⟩ := miss_inv hv hc h
    rw [Int.toNat_natCast, cAt_nat (show p < (c.set q ((j : Int) + 1)).length by rw [List.length_set]; omega), List.getElem_set]
    split
    · rename_i e; subst e
      have := closed_iff.1 hcl a ha i hi g1 (Int.le_trans g2 (hle a ha))
      rw [g3] at this
      exact this
    · have := hle p hp
      rw [cAt_nat (show p < c.length by omega)] at this
      exact this
theorem closeF_closed {ps : List Pr} (hv : validF ps = true) {c : List Int} (hc : c.length = ps.length) (hr : inRangeF ps c = true) : closedF ps (closeF ps c) = true := by
  rw [closedF_iff, (closeF_ok hv hc hr).2.2]; rfl
end Go.AL
end
section
namespace Go.AL
open Go Go.RowKit
set_option maxRecDepth 4000
theorem exB_true {E : Elim} {now : Nat → Nat} {p k : Nat} (h : exB E now p k = true) : E.ok p k = false ∨ ∃ q, q < E.n ∧ q ≠ p ∧ (k : Int) < E.need q (now q) p := by
  unfold exB at h
  rw [Bool.or_eq_true, List.any_eq_true] at h
  rcases h with h | ⟨q, hq, h⟩
  · exact .inl (by simpa using h)
  · simp only [Bool.and_eq_true, decide_eq_true_eq] at h
    exact .inr ⟨q, List.mem_range.1 hq, h.1, h.2⟩
section
variable {ex : Nat → Bool} {top k : Nat}
end
theorem find_range_none {n : Nat} {f : Nat → Bool} (h : (List.range n).find? f = none) : ∀ q, q < n → f q = false := fun q hq => by
  rw [List.find?_eq_none] at h
  simpa using h q (List.mem_range.2 hq)
theorem run_fin {E : Elim} {now fin : Nat → Nat} {st : List Stp} {l : Bool} (h : RunR E now st fin l) (hI : InE E now) : l = false → InE E fin ∧ ∀ p, p < E.n → exB E fin p (fin p) = false := by
  induction h with
  | stop h => exact fun _ => ⟨hI, find_range_none h⟩
  | lost h hl => exact fun h => by cases h
  | go h hl hr ih => exact ih (inE_step hI hl)
end Go.AL
end
section
namespace Go.AL
open Go Go.RowKit
set_option maxRecDepth 4000
section
variable {E : Elim} {p q m k : Nat}
end
theorem board_view {E : Elim} {now : Nat → Nat} {bb bn : Nat} (hb : ¬ bn = bb) : Vw (boardL E now bb bn) (.lp bb 3 0 0) (aBoard E now) := by
  have h1 : lk (boardL E now bb bn) bb = some (.row 116 3 [.agg [.sl 1 (needT E), .sl 1 (okM E), .ls bn 1 0 E.n E.n]] 1) := by simp only [boardL, lk, if_true]
  have h2 : lk (boardL E now bb bn) bn = some (.row 3 1 (dnA E.n now) E.n) := by simp only [boardL, lk, if_neg hb, if_true]
  unfold aBoard
  exact .lp h1 rfl (Vws.cons (.mkAgg (Vws.cons (.refl _) (Vws.cons (.refl _) (Vws.cons (Vw.ofLs h2 (dnA_length _ _).symm) .nil)))) .nil).2
end Go.AL
end
section
namespace Go.AL
open Go Go.RowKit
set_option maxRecDepth 4000
theorem ref22_Sent (ps : List Pr) (hs : Sm ps) (hv : validF ps = true) (c : List Int) (hc : c.length = ps.length) (p : Nat) (hp : p < ps.length) (i : Nat) (hi : i < ps[p].evs.length) (hic : (i : Int) < cAt c p) :
    PC Go.Proofs.Tryz.prog 131 [aTr ps, aInts c, ai p, ai i] (ab (!badEv ps c (((p : Int), (i : Int) + 1), ps[p].evs[i]))) := by
  obtain ⟨hl1, hl8⟩ := valid_len hv
  have hl := hs.procs
  have hel := hs.evs _ (List.getElem_mem hp)
  have hgp := getD_map (f := aPr) hp
  have hge := getD_map (f := aEv) hi
  have hbad : badEv ps c (((p : Int), (i : Int) + 1), ps[p].evs[i]) = (decide (ps[p].evs[i].kind = 3) && decide (cAt c (findIn (evIds ps) 2 ps[p].evs[i].msg).1 < (findIn (evIds ps) 2 ps[p].evs[i].msg).2)) := by
    simp only [badEv, decide_eq_true (show (i : Int) + 1 ≤ cAt c p by omega), Bool.and_true]
  rw [hbad]
  have hfd := ref12_Find ps hs 2 ps[p].evs[i].msg
  obtain ⟨f1, f2⟩ := findIn_proc hl1 2 ps[p].evs[i].msg
  have hgs := getD_cAt (c := c) f1 (by omega)
  generalize findIn (evIds ps) 2 ps[p].evs[i].msg = s at *
  refine PC.enter 35 [.tmp 8] [4, 9, 10] Go.Proofs.Tryz.func131 rfl rfl rfl rfl rfl (by simp) (AWp.of ?_); simp only [go_sem]
  repeat (first | ((with_reducible refine AWp.ofC ?_ ?_); exact rfl; simp only [go_sem, hgp, hge]) | ((with_reducible refine an ?_ ?_); exact Au))
  intro b9
  repeat (first | ((with_reducible refine AWp.ofC ?_ ?_); exact rfl; simp only [go_sem]) | ((with_reducible refine an ?_ ?_); exact Au))
  refine ⟨fun h3 => ?_, fun h3 => ?_⟩
  · repeat (first | ((with_reducible refine AWp.ofC ?_ ?_); exact rfl; simp only [go_sem]) | ((with_reducible refine an ?_ ?_); exact Au))
    refine ret_eq ?_; simp only [go_sem]
    rw [decide_eq_false h3]; rfl
  · repeat (first | ((with_reducible refine AWp.ofC ?_ ?_); exact rfl; simp only [go_sem]) | ((with_reducible refine an ?_ ?_); exact Au))
    repeat ((with_reducible refine an ?_ ?_); exact As)
    refine (hfd).val.use ?_; simp only [go_sem]
    repeat ((with_reducible refine an ?_ ?_); exact As)
    intro b10
    refine AWp.seq ?_
    refine AWp.drawn mixed 8 (by kernel_rfl) ?_; simp only [go_sem, hgs]
    repeat ((with_reducible refine an ?_ ?_); exact As)
    repeat (first | ((with_reducible refine AWp.ofC ?_ ?_); exact rfl; simp only [go_sem]) | ((with_reducible refine an ?_ ?_); exact Au))
    refine ret_eq ?_; simp only [go_sem]
    rw [decide_eq_true h3, Bool.true_and, ← decide_not]
    congr 2
    simp only [decide_eq_decide]; omega
end Go.AL
end
section
namespace Go.AL
open Go Go.RowKit
set_option maxRecDepth 4000
theorem conF_inv {ps : List Pr} {ts : List Pd} (h : conF ps ts = 0) : validF ps = true ∧ ts.length = ps.length ∧ ∀ q (hq : q < ts.length), lclF ps q 0 ts[q] = 0 := by
  by_cases h1 : validF ps = true ∧ ts.length = ps.length
  · refine ⟨h1.1, h1.2, fun q hq => ?_⟩
    have e : ∀ q (hq : q < ts.length), lclAt (fun p t => lclF ps p 0 t) ts q = lclF ps q 0 ts[q] := fun q hq => by unfold lclAt; rw [List.getElem?_eq_getElem hq]
    unfold conF at h
    rw [if_pos h1] at h
    cases hf : (List.range ts.length).find? (fun p => decide (lclAt (fun p t => lclF ps p 0 t) ts p ≠ 0)) with
    | some p =>
      rw [hf] at h
      have := (find_range hf).2.1
      have h : lclAt (fun p t => lclF ps p 0 t) ts p = 0 := h
      rw [h] at this; simp at this
    | none =>
      have := find_range_none hf q hq
      rw [e q hq] at this
      simpa using this
  · rw [conF_bad h1] at h; cases h
end Go.AL
end
section
namespace Go.AL
open Go Go.RowKit
set_option maxRecDepth 4000
theorem dnA_I (n : Nat) (f : Nat → Nat) : .sl 1 (dnA n f) = aInts (cutL n f) := by unfold aInts cutL dnA; rw [List.map_map]; rfl
theorem cutL_len (n : Nat) (f : Nat → Nat) : (cutL n f).length = n := by simp [cutL]
end Go.AL
end
section
namespace Go.AL
open Go Go.RowKit
set_option maxRecDepth 4000
theorem elim_need (ps : List Pr) (ts : List Pd) : NeedOk ps (elimOf ps ts) := ⟨rfl, fun _ hp => nev_get hp, fun _ _ _ => rfl⟩
theorem stC_cAt {n p q : Nat} {k : Int} (hq : q < n) : cAt (stC n p k) q = if p = q then k else 0 := by
  rw [cAt_nat (by rw [stC_len]; exact hq)]
  unfold stC
  rw [List.getElem_set, List.getElem_replicate]
theorem need_le {ps : List Pr} (hv : validF ps = true) {d : List Int} (hd : d.length = ps.length) (hr : inRangeF ps d = true) (hcl : closedF ps d = true) {q k : Nat} (hq : q < ps.length) (hk : (k : Int) ≤ cAt d q) : ∀ p, p < ps.length → cAt (closeF ps (stC ps.length q k)) p ≤ cAt d p := by
  have h0 := (inRange_iff hd).1 hr
  obtain ⟨a1, a2⟩ := stC_ok (k := (k : Int)) hq (by omega) (by have := (h0 q hq).2; omega)
  refine closeF_least hv hd hcl a1 a2 fun p hp => ?_
  rw [stC_cAt hp]
  split
  · rename_i e; subst e; exact hk
  · exact (h0 p hp).1
theorem peer_ne {ps : List Pr} (hv : validF ps = true) {p : Nat} (hp : p < ps.length) {i : Nat} (hi : i < ps[p].evs.length) (hk : ps[p].evs[i].kind = 3) : ps[p].evs[i].peer.toNat ≠ p := by
  have h := (evF_parts hp hi).1 (evF_of_valid hv hp hi)
  have h := h.1
  unfold formedI at h
  rw [if_neg (by omega), if_pos (.inr hk)] at h
  simp only [Bool.and_eq_true, Bool.not_eq_true', decide_eq_false_iff_not] at h
  have h0 := h.1.1
  unfold inI at h0
  simp only [Bool.and_eq_true, decide_eq_true_eq] at h0
  intro e
  exact h.1.2 (by omega)
section
variable {ps : List Pr} {E : Elim}
theorem run_sat (hv : validF ps = true) (hN : NeedOk ps E) {fin : Nat → Nat} {st : List Stp} (h : RunR E (fun _ => 0) st fin false) : SatD ps E (cutL ps.length fin) := by
  obtain ⟨hI, hex⟩ := run_fin h (inE_zero E) rfl
  have hc : ∀ p, p < ps.length → cAt (cutL ps.length fin) p = fin p := fun p hp => by
    rw [cAt_nat (by rw [cutL_len]; exact hp)]; simp [cutL]
  have hle : ∀ p (hp : p < ps.length), fin p ≤ ps[p].evs.length := fun p hp => by
    have := hI p (by rw [hN.n]; exact hp)
    rw [hN.top p hp] at this; exact this
  refine ⟨cutL_len _ _, (inRange_iff (cutL_len _ _)).2 fun p hp => ?_, closed_iff.2 fun p hp i hi hk hle' => ?_, fun p hp => ?_⟩
  · rw [hc p hp]; have := hle p hp; omega
  · obtain ⟨hq, j, hj, e, _, _⟩ := recv_peer (valid_parts hv).2.2 hp hi hk
    have hne := peer_ne hv hp hi hk
    rw [e]
    simp only
    rw [hc p hp] at hle'
    rw [hc _ hq]
    obtain ⟨a1, a2⟩ := stC_ok (k := (fin p : Int)) hp (by omega) (by have := hle p hp; omega)
    have hcl := closed_iff.1 (closeF_closed hv a1 a2) p hp i hi hk (by
      have := closeF_ge hv a1 a2 p hp
      rw [stC_cAt hp, if_pos rfl] at this
      omega)
    rw [e] at hcl
    simp only at hcl
    have := (exB_false.1 (hex _ (by rw [hN.n]; exact hq))).2 p (by rw [hN.n]; exact hp) (Ne.symm hne)
    rw [hN.need] at this
    omega
  · have := (exB_false.1 (hex p (by rw [hN.n]; exact hp))).1
    rw [hc p hp, Int.toNat_natCast]; exact this
end
end Go.AL
end
section
namespace Go.AL
open Go Go.RowKit
set_option maxRecDepth 4000
theorem MCalls.toPC {P : Program} {f : FuncId} {args : List AV} {K : AV → AHeap → Prop} {r' : AV} (h : MCalls P f args [] K) (hv : ∀ r L, K r L → Vw L r r') : PC P f args r' :=
  ⟨h.1, fun n w A vs hL hr => (h.2 n w A vs hL hr).mono fun e w' ⟨v, r, L', A', he, hK, hf, hA, hL', hk, hr'⟩ =>
    ⟨v, r', [], fun b => A' b ∨ keysOf L' b, he, ⟨rfl, rfl⟩, hf, fun b hb => hb.elim (hA b) (fun ⟨x, hx, e⟩ => by subst e; exact (hk x hx).elim (fun ⟨y, hy, _⟩ => by cases hy) (fun h => .inr (.inr h))), hL'.viewed (Lf := L') (Lk := []) (by simp) .nil, (by intro x hx; cases hx), hL'.view (Lf := L') (Lk := []) (by simp) (hv r L' hK) hr'⟩⟩
theorem conj_Possibly (ps : List Pr) (hs : Sm ps) (ts : List Pd) (hz : ∀ t ∈ ts, szF t ≤ 1000000) (htl : ts.length ≤ 1000000) : PC Go.Proofs.Tryz.prog 30 [aTr ps, .sl 6 (ts.map aPd)] (aPossR ps ts) := by
  refine (conj_PossiblyK ps hs ts hz htl (fun r L => Vw L r (aPossR ps ts)) (fun h hl v Lq hA => ?_) (fun h hl b => ?_) (fun h => ?_)).toPC fun _ _ h => h
  · unfold aPossR ansOf
    rw [if_pos h, hl, if_pos rfl]
    refine .mkTup (Vws.cons (.mkAgg ?_) (Vws.refl _))
    refine Vws.cons (.refl _) (Vws.cons (.refl _) (Vws.cons (.refl _) (Vws.cons (.nil 1) (Vws.cons (.nil 1) (Vws.cons (.nil 1) (Vws.cons ?_ (Vws.refl _)))))))
    rw [← aStp_I]
    have := hA.vw []
    rwa [List.append_nil] at this
  · unfold aPossR ansOf
    rw [if_pos h, hl, if_neg (by decide)]
    refine .mkTup (Vws.cons (.mkAgg ?_) (Vws.refl _))
    refine Vws.cons (.refl _) (Vws.cons (.refl _) (Vws.cons (.refl _) (Vws.cons ?_ (Vws.cons (.nil 1) (Vws.cons (.nil 1) (Vws.cons (.nil 3) (Vws.refl _)))))))
    rw [← dnA_I]
    exact Vw.ofLs (if_pos rfl) (dnA_length _ _).symm
  · unfold aPossR
    rw [if_neg h]
    refine .mkTup (Vws.cons (.mkAgg ?_) (Vws.refl _))
    exact Vws.cons (.refl _) (Vws.cons (.refl _) (Vws.cons (.refl _) (Vws.cons (.nil 1) (Vws.cons (.nil 1) (Vws.cons (.nil 1) (Vws.cons (.nil 3) (Vws.refl _)))))))
end Go.AL
end
section
namespace Go.AL
open Go Go.RowKit
set_option maxRecDepth 4000
theorem off_small {ps : List Pr} (hs : Sm ps) : ∀ k, k ≤ ps.length → off ps k ≤ k * 1000000 := by
  intro k
  induction k with
  | zero => intro _; simp [off]
  | succ k ih =>
    intro hk
    rw [off_succ (by omega)]
    have h1 := ih (by omega)
    have h2 := hs.evs _ (List.getElem_mem (show k < ps.length by omega))
    omega
end Go.AL
end
section
namespace Go.AL
open Go Go.RowKit
set_option maxRecDepth 4000
theorem law37_size (ps : List Pr) (hs : Sm ps) : PC Go.Proofs.Tryz.prog 18 [aTr ps] (ai (off ps ps.length)) := by
  have hl := hs.procs
  have hof := off_small hs
  refine PC.enter 20 [.tmp 2] [1, 5] Go.Proofs.Tryz.func18 rfl rfl rfl rfl rfl (by simp) (AWp.of ?_); simp only [go_sem]
  repeat (first | ((with_reducible refine AWp.ofC ?_ ?_); exact rfl; simp only [go_sem]) | ((with_reducible refine an ?_ ?_); exact Au))
  refine AWp.range' ps.length [3] [7, 8] (fun k vs L => L = [] ∧ vs = [ai (off ps k)]) (by omega) rfl rfl rfl ⟨rfl, by simp [off]; rfl⟩ ?_ ?_
  · rintro k vs L' hk - ⟨rfl, rfl⟩
    have h1 := hof k (by omega)
    have h2 := hs.evs _ (List.getElem_mem hk)
    simp only [go_sem]
    repeat ((with_reducible refine an ?_ ?_); exact As)
    refine AWp.of ?_; simp only [go_sem, getD_map hk]
    repeat ((with_reducible refine an ?_ ?_); exact As)
    intros
    refine AWp.of ?_; simp only [go_sem]
    repeat ((with_reducible refine an ?_ ?_); exact As)
    exact ⟨_, List.Sublist.refl _, rfl, by rw [off_succ hk]; simp⟩
  · rintro vs L' - ⟨rfl, rfl⟩
    simp only [go_sem]
    repeat (first | ((with_reducible refine AWp.ofC ?_ ?_); exact rfl; simp only [go_sem]) | ((with_reducible refine an ?_ ?_); exact Au))
    refine ret_eq ?_; simp only [go_sem]
end Go.AL
end
section
namespace Go.AL
open Go Go.RowKit Go.ChangeShapes Go.WideShapes Go.ChangeAt
section
variable {H : Type} {enc : TypeId × Value → H} {P : Program} {W : World} {t : TypeId}
theorem okWide_cells {r : Go.Reach} {b : Nat} {e : TypeId} {v : Value} (ht : P.underlying t = some (.slice e)) (h : Value.okWide P W r b t v) : v.cells = #[v] := by
  cases v with
  | agg cs =>
    exfalso
    simp only [Value.okWide, ht, Cell.okWide, Cell.ok] at h
  | _ => rfl
end
end Go.AL
end
section
namespace Go.AL
open Go Go.RowKit
set_option maxRecDepth 100000
section
variable {H : Type} {enc : TypeId × Value → H} {W : World}
theorem rdInts : Rd enc Go.Proofs.Tryz.prog W 42 1 aInts (fun l => l.length ≤ maxLen) :=
  (Rd.slice Go.Proofs.Tryz.underlying42 (by kernel_rfl : Program.cellsOf Go.Proofs.Tryz.prog 3 = 1) (by decide) (Rd.int Go.Proofs.Tryz.underlying3)).map id (fun _ => rfl) (fun _ h => h.1)
theorem rdRows : Rd enc Go.Proofs.Tryz.prog W 39 1 aRows (fun l => l.length ≤ maxLen) :=
  (Rd.slice Go.Proofs.Tryz.underlying39 (by kernel_rfl : Program.cellsOf Go.Proofs.Tryz.prog 42 = 1) (by decide) rdInts).map id (fun _ => rfl) (fun _ h => h.1)
end
end Go.AL
end
section
namespace Go.AL
open Go Go.RowKit
set_option maxRecDepth 100000
section
variable {H : Type} {enc : TypeId × Value → H} {W : World}
theorem rdPreds : Rd enc Go.Proofs.Tryz.prog W 25 1 (fun l : List Pd => .sl 6 (l.map aPd)) (fun l => l.length ≤ maxLen) :=
  (Rd.slice Go.Proofs.Tryz.underlying25 (by kernel_rfl : Program.cellsOf Go.Proofs.Tryz.prog 27 = 6) (by decide) (RdF.all rdPredN)).map id (fun _ => rfl) (fun _ h => h.1)
end
end Go.AL
end
section
/- The layer AL: a statement whose guarded operations are known to be wanted or not: a guarded call may turn the memory. No condition. -/
namespace Go.AL
open Go Go.RowKit

def astepF (C : Cfg) (all : List Oper) (o : Oper) (ρ : Env) (L : AHeap) (K : ARes) : Prop :=
  match o.guard with
  | none => aop C o ρ L K
  | some (j, want) => match gval all ρ j want with
    | some b => (b = want → aop C o ρ L K) ∧ (b ≠ want → K (put ρ o.dst .any) L)
    | none => False
def aregionF (C : Cfg) (all : List Oper) : List Oper → Env → AHeap → ARes → Prop
  | [], ρ, L, K => K ρ L
  | o :: rest, ρ, L, K => astepF C all o ρ L fun ρ L => aregionF C all rest ρ L K
def aregFK (C : Cfg) (all rest : List Oper) (K : ARes) (ρ : Env) (L : AHeap) : Prop := aregionF C all rest ρ L K
theorem aregionF_nil (C : Cfg) (all : List Oper) (ρ : Env) (L : AHeap) (K : ARes) : aregionF C all [] ρ L K = K ρ L := rfl
theorem aregionF_cons (C : Cfg) (all rest : List Oper) (o : Oper) (ρ : Env) (L : AHeap) (K : ARes) : aregionF C all (o :: rest) ρ L K = astepF C all o ρ L (aregFK C all rest K) := rfl
theorem astepF_sound {C : Cfg} {ops : Array Oper} {i : Nat} {o : Oper} {ρ : Env} {L : AHeap} {K : ARes} (hi : ops[i]? = some o) (hok : operOk C.N o = true) (h : astepF C ops.toList o ρ L K) : GOp C ops i ρ L K := by
  have hd := operOk_dst hok
  have hdef := operOk_def hok
  unfold astepF at h
  split at h
  · rename_i hg; exact AOp.gop hi hg (aop_sound hd hdef h)
  · rename_i j want hg
    split at h
    · rename_i b hv
      exact GOp.of_guard' hi hg hv hd (fun hb => aop_sound hd hdef (h.1 hb)) h.2
    · exact h.elim
theorem aregionF_sound {C : Cfg} {ops : Array Oper} {K : ARes} {n : Nat} {w0 : World} {M A0 : Foot} {Q : Exit → Act → World → Prop} (hQ : ∀ a w, post w0 M A0 C.N K a w → Q .normal a w) (hok : ops.toList.all (operOk C.N) = true) :
    ∀ (l : List Oper) (k : Nat), (∀ j, l[j]? = ops[k + j]?) → ∀ (ρ : Env) (L : AHeap) (a : Act) (w : World), aregionF C ops.toList l ρ L K → St w0 M A0 C.N ρ L a w → wpOpsIn (Fw C.r) n C.P ops Q (List.range' k l.length) a w
  | [], k, _, ρ, L, a, w, h, hs => hQ a w ⟨ρ, L, h, hs⟩
  | o :: l, k, hl, ρ, L, a, w, h, hs => by
    have h0 : ops[k]? = some o := by simpa using (hl 0).symm
    have ho : operOk C.N o = true := List.all_eq_true.1 hok o (List.mem_of_getElem? (by simpa using h0))
    rw [List.length_cons, List.range'_succ, wpOpsIn_cons]
    refine wpOpIn_mono ?_ (astepF_sound h0 ho h n w0 M A0 a w Q hs)
    rintro a' w' ⟨ρ', L', h1, h2⟩
    exact aregionF_sound hQ hok l (k + 1) (fun j => by have := hl (j + 1); simpa [Nat.add_assoc, Nat.add_comm 1 j] using this) ρ' L' a' w' h1 h2
theorem AWp.regionF {C : Cfg} {id : Nat} {ops : Array Oper} {Q : AQ} {ρ : Env} {L : AHeap} (h : aregionF C ops.toList ops.toList ρ L (Q .normal)) : AWp C (.region id ops false) Q ρ L := fun hok n w0 M A0 a w hs => by
  refine wpIn_region ?_
  have := aregionF_sound (C := C) (ops := ops) (K := Q .normal) (n := n) (Q := cq C w0 M A0 Q) (fun a w ⟨ρ', L', h1, h2⟩ => ⟨ρ', L', h1, h2⟩) hok ops.toList 0 (by simp) ρ L a w h hs
  rwa [Array.length_toList, ← List.range_eq_range'] at this
attribute [go_sem] aregionF_nil aregionF_cons astepF aregFK
end Go.AL
end
