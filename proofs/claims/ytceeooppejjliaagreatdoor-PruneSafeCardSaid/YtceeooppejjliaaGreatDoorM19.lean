/- Texts of this claim's proof: WPq, WBig, WPw3, WXw, AlBr, AlBr2. No condition. -/
import Derived.Test.YtceeooppejjliaaGreatDoorM18
import Derived.Test.YtceeooppejjliaaGreatDoorM13
import Derived.Test.YtceeooppejjliaaGreatDoorM9
import Derived.Test.YtceeooppejjliaaGreatDoorM6
import Derived.Test.YtceeooppejjliaaGreatDoorM17
import Derived.Test.YtceeooppejjliaaGreatDoorM16
import Derived.Test.YtceeooppejjliaaGreatDoorM4
import Derived.ProofKit
section
namespace Go.AL
open Go Go.RowKit
set_option maxRecDepth 4000
def leqF (a b : List Int) : Bool := decide (a.length = b.length) && (List.range a.length).all fun i => decide (a.getD i 0 ≤ b.getD i 0)
theorem leqF_ne {a b : List Int} (h : ¬ a.length = b.length) : leqF a b = false := by unfold leqF; rw [decide_eq_false h]; rfl
theorem leqF_no {a b : List Int} {i : Nat} (hi : i < a.length) (h : b.getD i 0 < a.getD i 0) : leqF a b = false := by
 unfold leqF
 rw [List.all_eq_false.2 ⟨i, List.mem_range.2 hi, by simpa using h⟩, Bool.and_false]
theorem leqF_yes {a b : List Int} (hl : a.length = b.length) (h : ∀ i, i < a.length → a.getD i 0 ≤ b.getD i 0) : leqF a b = true := by
 unfold leqF
 rw [decide_eq_true hl, Bool.true_and, List.all_eq_true]
 exact fun i hi => decide_eq_true (h i (List.mem_range.1 hi))
theorem getD_ai2 {x : List Int} {i : Nat} (hi : i < x.length) : (x.map ai).getD i .any = ai (x.getD i 0) := by
 rw [getD_map hi, List.getD_eq_getElem?_getD, List.getElem?_eq_getElem hi]; rfl
theorem cut_Leq (a b : List Int) (ha : a.length ≤ 1000000) : PC Proofs.Tryz.prog 47 [aInts a, aInts b] (ab (leqF a b)) := by
 by_cases hl : a.length = b.length
 ·have hli : (a.length : Int) = b.length := by omega
  have hno := fun i hi h => leqF_no (a := a) (b := b) (i := i) hi h
  have hyes := leqF_yes hl
  generalize leqF a b = B at *
  refine PC.enter 26 [.tmp 4] [] Proofs.Tryz.func47 rfl rfl rfl rfl rfl (by simp) (AWp.of ?_); simp only [go_sem]
  repeat (first | ((with_reducible refine AWp.ofC ?_ ?_); exact rfl; simp only [go_sem, hli]) | ((with_reducible refine an ?_ ?_); exact Au))
  refine AWp.range' b.length [] [0, 1, 12] (fun i vs L => L = [] ∧ ∀ j, j < i → a.getD j 0 ≤ b.getD j 0) (by omega) rfl rfl rfl ⟨rfl, fun j h => by omega⟩ ?_ ?_
  ·rintro i vs L hi - ⟨rfl, hJ⟩
   have ga := getD_ai2 (show i < a.length by omega)
   have gb := getD_ai2 hi
   have hno := hno i (by omega)
   simp only [go_sem]
   repeat (first | ((with_reducible refine AWp.ofC ?_ ?_); exact rfl; simp only [go_sem]) | ((with_reducible refine an ?_ ?_); exact Au))
   refine AWp.seq ?_
   refine AWp.mix mixed [0, 1, 2, 3, 4, 5, 6, 7, 8] .done (by kernel_rfl) ?_; simp only [go_sem, ga, gb, hli]
   repeat ((with_reducible refine an ?_ ?_); exact As)
   repeat (first | ((with_reducible refine AWp.ofC ?_ ?_); exact rfl; simp only [go_sem]) | ((with_reducible refine an ?_ ?_); exact Au))
   refine ⟨fun h1 => ?_, fun h1 => ?_⟩
   ·repeat (first | ((with_reducible refine AWp.ofC ?_ ?_); exact rfl; simp only [go_sem]) | ((with_reducible refine an ?_ ?_); exact Au))
    refine ret_eq ?_; simp only [go_sem]
    rw [hno h1]
   ·refine ⟨_, List.Sublist.refl _, rfl, fun j hj => ?_⟩
    by_cases e : j = i
    ·subst e; omega
    ·exact hJ j (by omega)
  ·rintro vs L - ⟨rfl, hJ⟩
   simp only [go_sem]
   repeat (first | ((with_reducible refine AWp.ofC ?_ ?_); exact rfl; simp only [go_sem]) | ((with_reducible refine an ?_ ?_); exact Au))
   refine ret_eq ?_; simp only [go_sem]
   rw [hyes fun i hi => hJ i (by omega)]
 ·have hli : ¬ (a.length : Int) = b.length := by omega
  rw [leqF_ne hl]
  refine PC.enter 26 [.tmp 4] [] Proofs.Tryz.func47 rfl rfl rfl rfl rfl (by simp) (AWp.of ?_); simp only [go_sem]
  repeat (first | ((with_reducible refine AWp.ofC ?_ ?_); exact rfl; simp only [go_sem, hli]) | ((with_reducible refine an ?_ ?_); exact Au))
  refine ret_eq ?_; simp only [go_sem]
noncomputable def safeF (ps : List Pr) (ts : List Pd) (c : List Int) : Bool := lostF (elimOf ps ts) || leqF c (cutL ps.length (finF (elimOf ps ts)))
noncomputable def safeE (ps : List Pr) (ts : List Pd) (c : List Int) : Int := if conF ps ts ≠ 0 then conF ps ts else givenF ps [c] []
theorem prune_Safe (ps : List Pr) (hs : Sm ps) (ts : List Pd) (hz : ∀ t ∈ ts, szF t ≤ 1000000) (htl : ts.length ≤ 1000000) (c : List Int) (hc : c.length ≤ 1000000) :
  PC Proofs.Tryz.prog 45 [aTr ps, .sl 6 (ts.map aPd), aInts c] (if safeE ps ts c = 0 then .tup [ab (safeF ps ts c), ai 0] else .tup [ab false, ai (safeE ps ts c)]) := by
 have h1 := conj_Possibly ps hs ts hz htl
 have h2 := cut_Frontier ps hs c hc
 have h3 := cut_Leq c (cutL ps.length (finF (elimOf ps ts))) hc
 have hEn : (elimOf ps ts).n = ps.length := rfl
 unfold aPossR ansOf at h1
 unfold safeE safeF aFront at *
 rw [hEn] at h1
 generalize lostF (elimOf ps ts) = lo at *
 generalize finF (elimOf ps ts) = fin at *
 generalize stepsF (elimOf ps ts) = st at *
 generalize cutL ps.length fin = F at *
 generalize leqF c F = B at *
 generalize givenF ps [c] [] = G at *
 generalize aEids (frontL 0 c) = FR at *
 by_cases hf : conF ps ts = 0
 ·rw [if_pos hf] at h1
  have e0 : (if conF ps ts ≠ 0 then conF ps ts else G) = G := if_neg (by simpa using hf)
  rw [e0]
  by_cases hg : G = 0
  ·rw [if_neg (by simpa using hg)] at h2
   rw [if_pos hg]
   cases lo with
   | true =>
    rw [if_pos rfl] at h1
    unfold aAns aSps at h1
    refine PC.enter 37 [.tmp 6, .tmp 7] [3, 8] Proofs.Tryz.func45 rfl rfl rfl rfl rfl (by simp) (AWp.of ?_); simp only [go_sem]
    repeat (first | ((with_reducible refine AWp.ofC ?_ ?_); exact rfl; simp only [go_sem]) | ((with_reducible refine an ?_ ?_); exact Au))
    repeat ((with_reducible refine an ?_ ?_); exact As)
    refine (h1).val.use ?_; simp only [go_sem]
    intro b8
    intros
    repeat (first | ((with_reducible refine AWp.ofC ?_ ?_); exact rfl; simp only [go_sem]) | ((with_reducible refine an ?_ ?_); exact Au))
    repeat ((with_reducible refine an ?_ ?_); exact As)
    refine (h2).val.use ?_; simp only [go_sem]
    repeat (first | ((with_reducible refine AWp.ofC ?_ ?_); exact rfl; simp only [go_sem]) | ((with_reducible refine an ?_ ?_); exact Au))
    refine GCall.use (ab B) (fun g => by simp at g) ?_
    simp only [go_sem]
    repeat (first | ((with_reducible refine AWp.ofC ?_ ?_); exact rfl; simp only [go_sem]) | ((with_reducible refine an ?_ ?_); exact Au))
    refine ret_eq ?_; simp only [go_sem]
    rfl
   | false =>
    rw [if_neg (by decide)] at h1
    unfold aAns aSps at h1
    refine PC.enter 37 [.tmp 6, .tmp 7] [3, 8] Proofs.Tryz.func45 rfl rfl rfl rfl rfl (by simp) (AWp.of ?_); simp only [go_sem]
    repeat (first | ((with_reducible refine AWp.ofC ?_ ?_); exact rfl; simp only [go_sem]) | ((with_reducible refine an ?_ ?_); exact Au))
    repeat ((with_reducible refine an ?_ ?_); exact As)
    refine (h1).val.use ?_; simp only [go_sem]
    intro b8
    intros
    repeat (first | ((with_reducible refine AWp.ofC ?_ ?_); exact rfl; simp only [go_sem]) | ((with_reducible refine an ?_ ?_); exact Au))
    repeat ((with_reducible refine an ?_ ?_); exact As)
    refine (h2).val.use ?_; simp only [go_sem]
    repeat (first | ((with_reducible refine AWp.ofC ?_ ?_); exact rfl; simp only [go_sem]) | ((with_reducible refine an ?_ ?_); exact Au))
    repeat ((with_reducible refine an ?_ ?_); exact As)
    refine GCall.use (ab B) (fun _ => ⟨At, (h3).val.use ⟨rfl, rfl⟩⟩) ?_; simp only [go_sem]
    repeat ((with_reducible refine an ?_ ?_); exact As)
    repeat (first | ((with_reducible refine AWp.ofC ?_ ?_); exact rfl; simp only [go_sem]) | ((with_reducible refine an ?_ ?_); exact Au))
    refine ret_eq ?_; simp only [go_sem]
    rfl
  ·rw [if_pos (by simpa using hg)] at h2
   rw [if_neg hg]
   generalize hAA : (if lo = true then (⟨1, false, 4, [], [], [], st.map stpI, 0⟩ : Ans) else ⟨1, true, 1, F, [], [], [], 0⟩) = AA at *
   obtain ⟨m0, m1, m2, m3, m4, m5, m6, m7⟩ := AA
   unfold aAns aSps at h1
   refine PC.enter 37 [.tmp 6, .tmp 7] [3, 8] Proofs.Tryz.func45 rfl rfl rfl rfl rfl (by simp) (AWp.of ?_); simp only [go_sem]
   repeat (first | ((with_reducible refine AWp.ofC ?_ ?_); exact rfl; simp only [go_sem]) | ((with_reducible refine an ?_ ?_); exact Au))
   repeat ((with_reducible refine an ?_ ?_); exact As)
   refine (h1).val.use ?_; simp only [go_sem]
   intro b8
   intros
   repeat (first | ((with_reducible refine AWp.ofC ?_ ?_); exact rfl; simp only [go_sem]) | ((with_reducible refine an ?_ ?_); exact Au))
   repeat ((with_reducible refine an ?_ ?_); exact As)
   refine (h2).val.use ?_; simp only [go_sem]
   repeat (first | ((with_reducible refine AWp.ofC ?_ ?_); exact rfl; simp only [go_sem, hg]) | ((with_reducible refine an ?_ ?_); exact Au))
   refine ret_eq ?_; simp only [go_sem]
 ·rw [if_neg hf] at h1
  have e0 : (if conF ps ts ≠ 0 then conF ps ts else G) = conF ps ts := if_pos hf
  rw [e0, if_neg hf]
  unfold aAns aSps noAns at h1
  simp only at h1
  generalize conF ps ts = C at *
  refine PC.enter 37 [.tmp 6, .tmp 7] [3, 8] Proofs.Tryz.func45 rfl rfl rfl rfl rfl (by simp) (AWp.of ?_); simp only [go_sem]
  repeat (first | ((with_reducible refine AWp.ofC ?_ ?_); exact rfl; simp only [go_sem]) | ((with_reducible refine an ?_ ?_); exact Au))
  repeat ((with_reducible refine an ?_ ?_); exact As)
  refine (h1).val.use ?_; simp only [go_sem]
  intro b8
  intros
  repeat (first | ((with_reducible refine AWp.ofC ?_ ?_); exact rfl; simp only [go_sem, hf]) | ((with_reducible refine an ?_ ?_); exact Au))
  refine ret_eq ?_; simp only [go_sem]
theorem ref49_SafeFault (ps : List Pr) (hs : Sm ps) (ts : List Pd) (hz : ∀ t ∈ ts, szF t ≤ 1000000) (htl : ts.length ≤ 1000000) (c : List Int) (_hc : c.length ≤ 1000000) :
  PC Proofs.Tryz.prog 44 [aTr ps, .sl 6 (ts.map aPd), aInts c] (ai (safeE ps ts c)) := by
 have h1 := ref37_Fault ps hs ts hz htl
 have h2 := ref25_CutFault ps hs c
 unfold safeE
 generalize givenF ps [c] [] = G at *
 generalize conF ps ts = C at *
 by_cases hf : C = 0
 ·rw [if_neg (by simpa using hf)]
  refine PC.enter 17 [.tmp 6] [3] Proofs.Tryz.func44 rfl rfl rfl rfl rfl (by simp) (AWp.of ?_); simp only [go_sem]
  repeat (first | ((with_reducible refine AWp.ofC ?_ ?_); exact rfl; simp only [go_sem]) | ((with_reducible refine an ?_ ?_); exact Au))
  repeat ((with_reducible refine an ?_ ?_); exact As)
  refine (h1).val.use ?_; simp only [go_sem]
  repeat (first | ((with_reducible refine AWp.ofC ?_ ?_); exact rfl; simp only [go_sem, hf]) | ((with_reducible refine an ?_ ?_); exact Au))
  repeat ((with_reducible refine an ?_ ?_); exact As)
  refine (h2).val.use ?_; simp only [go_sem]
  repeat (first | ((with_reducible refine AWp.ofC ?_ ?_); exact rfl; simp only [go_sem]) | ((with_reducible refine an ?_ ?_); exact Au))
  refine ret_eq ?_; simp only [go_sem]
 ·rw [if_pos hf]
  refine PC.enter 17 [.tmp 6] [3] Proofs.Tryz.func44 rfl rfl rfl rfl rfl (by simp) (AWp.of ?_); simp only [go_sem]
  repeat (first | ((with_reducible refine AWp.ofC ?_ ?_); exact rfl; simp only [go_sem]) | ((with_reducible refine an ?_ ?_); exact Au))
  repeat ((with_reducible refine an ?_ ?_); exact As)
  refine (h1).val.use ?_; simp only [go_sem]
  repeat (first | ((with_reducible refine AWp.ofC ?_ ?_); exact rfl; simp only [go_sem, hf]) | ((with_reducible refine an ?_ ?_); exact Au))
  refine ret_eq ?_; simp only [go_sem]
theorem ref49_Safe (ps : List Pr) (hs : Sm ps) (ts : List Pd) (hz : ∀ t ∈ ts, szF t ≤ 1000000) (htl : ts.length ≤ 1000000) (c : List Int) (hf : conF ps ts = 0) (hc : c.length = ps.length) :
  PC Proofs.Tryz.prog 52 [aTr ps, .sl 6 (ts.map aPd), aInts c] (ab (safeF ps ts c)) := by
 have h1 := ref37_Possibly ps hs ts hz htl hf
 have hps := hs.procs
 have hEn : (elimOf ps ts).n = ps.length := rfl
 unfold ansOf at h1
 unfold safeF at *
 rw [hEn] at h1
 generalize lostF (elimOf ps ts) = lo at *
 generalize finF (elimOf ps ts) = fin at *
 generalize stepsF (elimOf ps ts) = st at *
 have hFl := cutL_len ps.length fin
 generalize cutL ps.length fin = F at *
 cases lo with
 | true =>
  rw [if_pos rfl] at h1
  unfold aAns aSps at h1
  refine PC.enter 31 [.tmp 6] [3, 7] Proofs.Tryz.func52 rfl rfl rfl rfl rfl (by simp) (AWp.of ?_); simp only [go_sem]
  repeat (first | ((with_reducible refine AWp.ofC ?_ ?_); exact rfl; simp only [go_sem]) | ((with_reducible refine an ?_ ?_); exact Au))
  repeat ((with_reducible refine an ?_ ?_); exact As)
  refine (h1).val.use ?_; simp only [go_sem]
  intro b7
  intros
  repeat (first | ((with_reducible refine AWp.ofC ?_ ?_); exact rfl; simp only [go_sem]) | ((with_reducible refine an ?_ ?_); exact Au))
  refine ret_eq ?_; simp only [go_sem]
  rfl
 | false =>
  rw [if_neg (by decide)] at h1
  unfold aAns aSps at h1
  have hno := fun i hi h => leqF_no (a := c) (b := F) (i := i) hi h
  have hyes := leqF_yes (a := c) (b := F) (by omega)
  generalize leqF c F = B at *
  refine PC.enter 31 [.tmp 6] [3, 7] Proofs.Tryz.func52 rfl rfl rfl rfl rfl (by simp) (AWp.of ?_); simp only [go_sem]
  repeat (first | ((with_reducible refine AWp.ofC ?_ ?_); exact rfl; simp only [go_sem]) | ((with_reducible refine an ?_ ?_); exact Au))
  repeat ((with_reducible refine an ?_ ?_); exact As)
  refine (h1).val.use ?_; simp only [go_sem]
  intro b7
  intros
  repeat (first | ((with_reducible refine AWp.ofC ?_ ?_); exact rfl; simp only [go_sem]) | ((with_reducible refine an ?_ ?_); exact Au))
  refine AWp.block (AWp.count 8 c.length [] [2, 7] (fun i vs L => L = [] ∧ ∀ j, j < i → c.getD j 0 ≤ F.getD j 0) rfl rfl ⟨rfl, fun j h => by omega⟩ ?_)
  rintro i vs L hi - ⟨rfl, hJ⟩
  simp only [go_sem]
  repeat (first | ((with_reducible refine AWp.ofC ?_ ?_); exact rfl; simp only [go_sem]) | ((with_reducible refine an ?_ ?_); exact Au))
  refine ⟨fun h4 => ?_, fun h4 => ?_⟩
  ·have hic : i < c.length := by omega
   have ga := getD_ai2 hic
   have gb := getD_ai2 (show i < F.length by omega)
   have hno := hno i hic
   refine AWp.seq (AWp.block (AWp.seq ?_))
   refine AWp.mix mixed [0, 1, 2, 3, 4, 5, 6, 7, 8, 9] .done (by kernel_rfl) ?_; simp only [go_sem, ga, gb]
   repeat ((with_reducible refine an ?_ ?_); exact As)
   repeat (first | ((with_reducible refine AWp.ofC ?_ ?_); exact rfl; simp only [go_sem]) | ((with_reducible refine an ?_ ?_); exact Au))
   refine ⟨fun h5 => ?_, fun h5 => ?_⟩
   ·repeat (first | ((with_reducible refine AWp.ofC ?_ ?_); exact rfl; simp only [go_sem]) | ((with_reducible refine an ?_ ?_); exact Au))
    refine ret_eq ?_; simp only [go_sem]
    rw [hno h5]; rfl
   ·repeat (first | ((with_reducible refine AWp.ofC ?_ ?_); exact rfl; simp only [go_sem]) | ((with_reducible refine an ?_ ?_); exact Au))
    refine ⟨_, List.Sublist.refl _, rfl, fun j hj => ?_⟩
    by_cases e : j = i
    ·subst e; omega
    ·exact hJ j (by omega)
  ·repeat (first | ((with_reducible refine AWp.ofC ?_ ?_); exact rfl; simp only [go_sem]) | ((with_reducible refine an ?_ ?_); exact Au))
   refine ret_eq ?_; simp only [go_sem]
   rw [hyes fun i hi => hJ i (by omega)]; rfl
end Go.AL
end
section
namespace Go.AL
open Go Go.RowKit
set_option maxRecDepth 4000
def asg20 (e : Ev) : Bool := decide (20 < (e.asg.length : Int))
def bigP (x : Pr) : Bool := decide (70 < (x.evs.length : Int)) || (decide (20 < (x.vars.length : Int)) || x.evs.any asg20)
def bigF (ps : List Pr) : Bool := decide (10 < (ps.length : Int)) || ps.any bigP
theorem bigF_sm {ps : List Pr} (h : bigF ps = false) : Sm ps := by
 simp only [bigF, Bool.or_eq_false_iff, decide_eq_false_iff_not, List.any_eq_false, bigP, asg20, Bool.or_eq_true, decide_eq_true_eq, not_or, Bool.not_eq_true] at h
 obtain ⟨h1, h2⟩ := h
 exact ⟨by omega, fun p hp => by have := (h2 p hp).1; omega, fun p hp => by have := (h2 p hp).2.1; omega, fun p hp e he => by have := (h2 p hp).2.2 e he; omega⟩
theorem law49_big11 (e : Ev) : PC Proofs.Tryz.prog 93 [aEv e] (ab (asg20 e)) := by
 refine PC.enter 7 [.tmp 2] [1] Proofs.Tryz.func93 rfl rfl rfl rfl rfl (by simp) (AWp.of ?_); simp only [go_sem]
 repeat (first | ((with_reducible refine AWp.ofC ?_ ?_); exact rfl; simp only [go_sem]) | ((with_reducible refine an ?_ ?_); exact Au))
 refine ret_eq ?_; simp only [go_sem]
 rfl
theorem law49_big1 (x : Pr) : PC Proofs.Tryz.prog 92 [aPr x] (ab (bigP x)) := by
 refine PC.enter 18 [.tmp 2] [1] Proofs.Tryz.func92 rfl rfl rfl rfl rfl (by simp) (AWp.of ?_); simp only [go_sem]
 repeat (first | ((with_reducible refine AWp.ofC ?_ ?_); exact rfl; simp only [go_sem]) | ((with_reducible refine an ?_ ?_); exact Au))
 refine GCall.use (ab (x.evs.any asg20)) (fun hg => ⟨by have := hg; simp at this ⊢; omega, (events_containsFunc x.evs (by have := hg; simp at this; omega) _ rfl asg20 fun e _ => (law49_big11 e).val).val.use ⟨rfl, rfl⟩⟩) ?_; simp only [go_sem]
 repeat (first | ((with_reducible refine AWp.ofC ?_ ?_); exact rfl; simp only [go_sem]) | ((with_reducible refine an ?_ ?_); exact Au))
 refine ret_eq ?_; simp only [go_sem]
 unfold bigP; rw [Bool.or_assoc]
theorem law49_big (ps : List Pr) : PC Proofs.Tryz.prog 41 [aTr ps] (ab (bigF ps)) := by
 refine PC.enter 12 [.tmp 2] [1] Proofs.Tryz.func41 rfl rfl rfl rfl rfl (by simp) (AWp.of ?_); simp only [go_sem]
 repeat (first | ((with_reducible refine AWp.ofC ?_ ?_); exact rfl; simp only [go_sem]) | ((with_reducible refine an ?_ ?_); exact Au))
 refine GCall.use (ab (ps.any bigP)) (fun hg => ⟨by have := hg; simp at this ⊢; omega, (procs_containsFunc ps (by have := hg; simp at this; omega) _ rfl bigP fun e _ => (law49_big1 e).val).val.use ⟨rfl, rfl⟩⟩) ?_; simp only [go_sem]
 repeat (first | ((with_reducible refine AWp.ofC ?_ ?_); exact rfl; simp only [go_sem]) | ((with_reducible refine an ?_ ?_); exact Au))
 refine ret_eq ?_; simp only [go_sem]
 rfl
theorem off_small {ps : List Pr} (hs : Sm ps) : ∀ k, k ≤ ps.length → off ps k ≤ k * 1000000 := by
 intro k
 induction k with
 | zero => intro _; simp [off]
 | succ k ih =>
  intro hk
  rw [off_succ (by omega)]
  have h1 := ih (by omega)
  have h2 := hs.evs _ (List.getElem_mem (show k < ps.length by omega))
  omega
theorem law49_size (ps : List Pr) (hs : Sm ps) : PC Proofs.Tryz.prog 43 [aTr ps] (ai (off ps ps.length)) := by
 have hl := hs.procs
 have hof := off_small hs
 refine PC.enter 20 [.tmp 2] [1, 5] Proofs.Tryz.func43 rfl rfl rfl rfl rfl (by simp) (AWp.of ?_); simp only [go_sem]
 repeat (first | ((with_reducible refine AWp.ofC ?_ ?_); exact rfl; simp only [go_sem]) | ((with_reducible refine an ?_ ?_); exact Au))
 refine AWp.range' ps.length [3] [7, 8] (fun k vs L => L = [] ∧ vs = [ai (off ps k)]) (by omega) rfl rfl rfl ⟨rfl, by simp [off]; rfl⟩ ?_ ?_
 ·rintro k vs L' hk - ⟨rfl, rfl⟩
  have h1 := hof k (by omega)
  have h2 := hs.evs _ (List.getElem_mem hk)
  simp only [go_sem]
  repeat ((with_reducible refine an ?_ ?_); exact As)
  refine AWp.of ?_; simp only [go_sem, getD_map hk]
  repeat ((with_reducible refine an ?_ ?_); exact As)
  intros
  refine AWp.of ?_; simp only [go_sem]
  repeat ((with_reducible refine an ?_ ?_); exact As)
  exact ⟨_, List.Sublist.refl _, rfl, by rw [off_succ hk]; simp⟩
 ·rintro vs L' - ⟨rfl, rfl⟩
  simp only [go_sem]
  repeat (first | ((with_reducible refine AWp.ofC ?_ ?_); exact rfl; simp only [go_sem]) | ((with_reducible refine an ?_ ?_); exact Au))
  refine ret_eq ?_; simp only [go_sem]
end Go.AL
end
section
namespace Go.AL
open Go Go.RowKit
set_option maxRecDepth 4000
mutual
def hugeF : Pd → Int → Int → Int
 | .mk _ _ _ _ _ l, d, c => hugeL l (d + 1) (if 40 < d then 1000 else c + 1)
def hugeL : List Pd → Int → Int → Int
 | [], _, c => c
 | x :: r, d, c => if c ≤ 300 then hugeL r d (hugeF x d c) else c
end
theorem hugeL_nil (d c : Int) : hugeL [] d c = c := by rw [hugeL]
theorem hugeL_cons (x : Pd) (r : List Pd) (d c : Int) : hugeL (x :: r) d c = if c ≤ 300 then hugeL r d (hugeF x d c) else c := by rw [hugeL]
theorem hugeF_spec (t : Pd) : ∀ d c : Int, 0 ≤ c → c ≤ 300 → c + 1 ≤ hugeF t d c ∧ hugeF t d c ≤ 1000 ∧ (hugeF t d c ≤ 300 → (c + szF t : Int) ≤ hugeF t d c) := by
 induction t using Pd.ind with
 | _ k n p q s l ih =>
 intro d c h0 h1
 rw [hugeF, szF]
 have hl : ∀ l' : List Pd, (∀ x ∈ l', x ∈ l) → ∀ c : Int, 0 ≤ c → c ≤ 1000 → c ≤ hugeL l' (d + 1) c ∧ hugeL l' (d + 1) c ≤ 1000 ∧ (hugeL l' (d + 1) c ≤ 300 → (c + szL l' : Int) ≤ hugeL l' (d + 1) c) := by
  intro l'
  induction l' with
  | nil => intro _ c h0 h1; rw [hugeL, szL]; exact ⟨by omega, h1, fun _ => by omega⟩
  | cons x r ihr =>
   intro hm c h0 h1
   rw [hugeL, szL]
   by_cases hc : c ≤ 300
   ·rw [if_pos hc]
    obtain ⟨a1, a2, a3⟩ := ih x (hm x List.mem_cons_self) (d + 1) c h0 hc
    obtain ⟨b1, b2, b3⟩ := ihr (fun y hy => hm y (List.mem_cons_of_mem _ hy)) (hugeF x (d + 1) c) (by omega) a2
    exact ⟨by omega, b2, fun h => by have := b3 h; have := a3 (by omega); omega⟩
   ·rw [if_neg hc]
    exact ⟨by omega, h1, fun h => absurd h hc⟩
 split
 ·obtain ⟨b1, b2, b3⟩ := hl l (fun _ h => h) 1000 (by decide) (by decide)
  exact ⟨by omega, b2, fun h => by omega⟩
 ·obtain ⟨b1, b2, b3⟩ := hl l (fun _ h => h) (c + 1) (by omega) (by omega)
  exact ⟨by omega, b2, fun h => by have := b3 h; omega⟩
theorem hugeL_take {l : List Pd} {d c : Int} : ∀ {i : Nat} (hi : i < l.length), hugeL (l.take (i + 1)) d c = if hugeL (l.take i) d c ≤ 300 then hugeF l[i] d (hugeL (l.take i) d c) else hugeL (l.take i) d c := by
 induction l generalizing c with
 | nil => intro i hi; simp at hi
 | cons x r ih =>
  intro i hi
  cases i with
  | zero =>
   simp only [List.take_succ_cons, List.take_zero, List.getElem_cons_zero, hugeL_cons, hugeL_nil]
  | succ i =>
   simp only [List.take_succ_cons, List.getElem_cons_succ]
   simp only [hugeL_cons]
   by_cases h : c ≤ 300
   ·rw [if_pos h, if_pos h]; exact ih (by simpa using hi)
   ·rw [if_neg h, if_neg h, if_neg h]
theorem hugeL_full {l : List Pd} {d c : Int} {i : Nat} (h : ¬ hugeL (l.take i) d c ≤ 300) : hugeL l d c = hugeL (l.take i) d c := by
 induction l generalizing c i with
 | nil => rw [List.take_nil]
 | cons x r ih =>
  cases i with
  | zero =>
   have e0 : hugeL [] d c = c := by rw [hugeL]
   rw [List.take_zero, e0] at h
   rw [List.take_zero, e0, hugeL, if_neg h]
  | succ i =>
   rw [List.take_succ_cons, hugeL] at *
   rw [hugeL]
   by_cases hc : c ≤ 300
   ·rw [if_pos hc] at h ⊢; rw [if_pos hc]; exact ih h
   ·rw [if_neg hc, if_neg hc]
def aHuge (bn bw : Nat) : AV := .clo 157 [.lp bn 1 0 0, .lp bw 1 0 0]
def Lh (bn bw : Nat) (c : Int) : AHeap := [(bw, .row 104 1 [aHuge bn bw] 1), (bn, .row 3 1 [ai c] 1)]
theorem law49_huge1 (bn bw : Nat) (hb : ¬ bn = bw) (t : Pd) : ∀ d c : Int, 0 ≤ d → d ≤ 41 → 0 ≤ c → c ≤ 300 →
  MCalls Proofs.Tryz.prog 157 [aPd t, ai d, .lp bn 1 0 0, .lp bw 1 0 0] (Lh bn bw c) fun r L => r = .tup [] ∧ L = Lh bn bw (hugeF t d c) := by
 induction t using Pd.ind with
 | _ k n p q s l ih =>
 intro d c d0 d1 c0 c1
 have hb' : ¬ bw = bn := fun e => hb e.symm
 have hsp : hugeF (.mk k n p q s l) d c = hugeL l (d + 1) (if 40 < d then 1000 else c + 1) := by rw [hugeF]
 unfold Lh aHuge at *
 refine MCalls.enter' 31 [] [4] Proofs.Tryz.func157 rfl rfl rfl rfl rfl (by simp) (AWp.of ?_); simp only [go_sem]
 generalize hugeF (.mk k n p q s l) d c = z at *
 repeat ((with_reducible refine an ?_ ?_); exact As)
 refine AWp.of ?_; simp only [go_sem, hb]
 repeat ((with_reducible refine an ?_ ?_); exact As)
 refine AWp.cut [1, 2, 3, 4] (fun vs L => vs = [ai d, .lp bn 1 0 0, .lp bw 1 0 0, .rp 6 [aPd (.mk k n p q s l)] 0 0] ∧ L = [(bw, ABlk.row 104 1 [.clo 157 [.lp bn 1 0 0, .lp bw 1 0 0]] 1), (bn, ABlk.row 3 1 [ai (if 40 < d then 1000 else c + 1)] 1)]) ?_ ?_
 ·repeat (first | ((with_reducible refine AWp.ofC ?_ ?_); exact rfl; simp only [go_sem, hb]) | ((with_reducible refine an ?_ ?_); exact Au))
  refine ⟨fun h1 => ?_, fun h1 => ?_⟩
  ·repeat (first | ((with_reducible refine AWp.ofC ?_ ?_); exact rfl; simp only [go_sem]) | ((with_reducible refine an ?_ ?_); exact Au))
   exact ⟨_, List.Sublist.refl _, by rw [if_pos h1]⟩
  ·exact ⟨_, List.Sublist.refl _, by rw [if_neg h1]⟩
 rintro vs L - ⟨rfl, rfl⟩
 have hd40 : (if 40 < d then 1000 else c + 1) ≤ 300 → d ≤ 40 := by split <;> omega
 have hC : 0 ≤ (if 40 < d then 1000 else c + 1) ∧ (if 40 < d then 1000 else c + 1) ≤ 1000 := by split <;> omega
 generalize (if 40 < d then 1000 else c + 1) = C at *
 simp only [go_sem]
 repeat (first | ((with_reducible refine AWp.ofC ?_ ?_); exact rfl; simp only [go_sem]) | ((with_reducible refine an ?_ ?_); exact Au))
 refine AWp.block (AWp.count 6 l.length [] [1, 2, 3, 4] (fun i vs L => (i : Int) ≤ hugeL (l.take i) (d + 1) C ∧ C ≤ hugeL (l.take i) (d + 1) C ∧ hugeL (l.take i) (d + 1) C ≤ 1000 ∧ L = [(bw, ABlk.row 104 1 [.clo 157 [.lp bn 1 0 0, .lp bw 1 0 0]] 1), (bn, ABlk.row 3 1 [ai (hugeL (l.take i) (d + 1) C)] 1)]) rfl rfl (by rw [List.take_zero, hugeL_nil]; exact ⟨by omega, by omega, by omega, rfl⟩) ?_)
 rintro i vs L hi - ⟨hi1, hi2, hi3, rfl⟩
 have hfull := fun h => hugeL_full (l := l) (d := d + 1) (c := C) (i := i) h
 have htk := fun (h : i < l.length) => hugeL_take (l := l) (d := d + 1) (c := C) h
 have hend : i = l.length → hugeL (l.take i) (d + 1) C = hugeL l (d + 1) C := fun h => by rw [h, List.take_length]
 generalize hugeL (l.take i) (d + 1) C = ci at *
 simp only [go_sem]
 repeat (first | ((with_reducible refine AWp.ofC ?_ ?_); exact rfl; simp only [go_sem, hb]) | ((with_reducible refine an ?_ ?_); exact Au))
 refine ⟨fun h4 h5 => ?_, fun h4 => ?_⟩
 ·have hil : i < l.length := by omega
  have hgi := getD_map (f := aPd) hil
  have hch := ih l[i] (List.getElem_mem hil) (d + 1) ci (by omega) (by omega) (by omega) h5
  have htk := htk hil
  rw [if_pos h5] at htk
  obtain ⟨g1, g2, _⟩ := hugeF_spec l[i] (d + 1) ci (by omega) h5
  generalize hugeF l[i] (d + 1) ci = cn at *
  generalize l[i] = x at *
  obtain ⟨k2, n2, p2, q2, s2, l2⟩ := x
  simp only [aPd_mk] at hgi hch
  refine AWp.seq (AWp.block ?_)
  refine AWp.mix mixed [1, 2, 3, 4, 5, 6, 7] (.step 0 (.step 8 .done .done) .done) (by kernel_rfl) ?_; simp only [go_sem, hgi, hb']
  repeat ((with_reducible refine an ?_ ?_); exact As)
  refine (MCalls.clo hch).mono ?_
  rintro r L ⟨rfl, rfl⟩
  simp only [go_sem]
  repeat (first | ((with_reducible refine AWp.ofC ?_ ?_); exact rfl; simp only [go_sem]) | ((with_reducible refine an ?_ ?_); exact Au))
  exact ⟨_, List.Sublist.refl _, by rw [htk]; omega, by rw [htk]; omega, by rw [htk]; exact g2, by rw [htk]⟩
 ·repeat (first | ((with_reducible refine AWp.ofC ?_ ?_); exact rfl; simp only [go_sem]) | ((with_reducible refine an ?_ ?_); exact Au))
  have hz : z = ci := by
   rw [hsp]
   by_cases e : ci ≤ 300
   ·have : ¬ (i : Int) < l.length := fun h => h4 h e
    rw [hend (by omega)]
   ·exact hfull e
  refine ret_own ?_
  simp only [go_sem]
  rw [hz]
theorem law49_huge (t : Pd) : PC Proofs.Tryz.prog 95 [aPd t] (ab (decide (300 < hugeF t 0 0))) := by
 have hw := fun bn bw hb => law49_huge1 bn bw hb t 0 0 (by decide) (by decide) (by decide) (by decide)
 unfold Lh aHuge at hw
 generalize hugeF t 0 0 = w at *
 obtain ⟨k, n, p, q, s, l⟩ := t
 simp only [aPd_mk] at *
 refine PC.enter 11 [.tmp 2] [1] Proofs.Tryz.func95 rfl rfl rfl rfl rfl (by simp) (AWp.of ?_); simp only [go_sem]
 repeat (first | ((with_reducible refine AWp.ofC ?_ ?_); exact rfl; simp only [go_sem]) | ((with_reducible refine an ?_ ?_); exact Au))
 intro bn
 repeat (first | ((with_reducible refine AWp.ofC ?_ ?_); exact rfl; simp only [go_sem]) | ((with_reducible refine an ?_ ?_); exact Au))
 intro bw hlt
 have hb : ¬ bw = bn := by omega
 have hb' : ¬ bn = bw := by omega
 repeat (first | ((with_reducible refine AWp.ofC ?_ ?_); exact rfl; simp only [go_sem, hb]) | ((with_reducible refine an ?_ ?_); exact Au))
 repeat ((with_reducible refine an ?_ ?_); exact As)
 refine (MCalls.clo (hw bn bw hb')).mono ?_
 rintro r L ⟨rfl, rfl⟩
 simp only [go_sem]
 repeat (first | ((with_reducible refine AWp.ofC ?_ ?_); exact rfl; simp only [go_sem, hb']) | ((with_reducible refine an ?_ ?_); exact Au))
 refine ret_eq ?_; simp only [go_sem]
theorem not_huge {t : Pd} (h : ¬ 300 < hugeF t 0 0) : szF t ≤ 300 := by
 have := (hugeF_spec t 0 0 (by decide) (by decide)).2.2 (by omega)
 omega
end Go.AL
end
section
namespace Go.AL
open Go Go.RowKit
set_option maxRecDepth 4000
def manyG (ts : List Pd) : Bool := decide ((10 : Int) < ts.length) || ts.any fun t => decide (300 < hugeF t 0 0)
theorem manyG_size {ts : List Pd} (h : manyG ts = false) : ts.length ≤ 10 ∧ ∀ t ∈ ts, szF t ≤ 300 := by
 unfold manyG at h
 rw [Bool.or_eq_false_iff, decide_eq_false_iff_not, List.any_eq_false] at h
 exact ⟨by omega, fun t ht => not_huge (by simpa using h.2 t ht)⟩
theorem law49_many (ts : List Pd) : PC Proofs.Tryz.prog 42 [.sl 6 (ts.map aPd)] (ab (manyG ts)) := by
 have h := fun hl => preds_containsFunc ts hl (.v (.func (.func 95) #[] #[])) rfl (fun t => decide (300 < hugeF t 0 0)) fun t _ => (law49_huge t).val
 unfold manyG
 generalize (ts.any fun t => decide (300 < hugeF t 0 0)) = B at *
 refine PC.enter 10 [.tmp 2] [] Proofs.Tryz.func42 rfl rfl rfl rfl rfl (by simp) (AWp.of ?_); simp only [go_sem]
 repeat (first | ((with_reducible refine AWp.ofC ?_ ?_); exact rfl; simp only [go_sem]) | ((with_reducible refine an ?_ ?_); exact Au))
 refine GCall.use (ab B) ?_ ?_
 ·intro g; exact ⟨At, (h (by have := g; simp at this; omega)).val.use ⟨rfl, rfl⟩⟩
 simp only [go_sem]
 repeat (first | ((with_reducible refine AWp.ofC ?_ ?_); exact rfl; simp only [go_sem]) | ((with_reducible refine an ?_ ?_); exact Au))
 refine ret_eq ?_; simp only [go_sem]
theorem aPeak_inv (ps : List Pr) (order : List Int) : ∃ n e : Int, aPeak ps order = .tup [ai n, ai e] := by
 unfold aPeak
 split
 ·exact ⟨_, _, rfl⟩
 ·split
  ·exact ⟨_, _, rfl⟩
  ·split
   ·exact ⟨_, _, rfl⟩
   ·exact ⟨_, _, rfl⟩
theorem law49_PruneSafe (ps : List Pr) (ts : List Pd) (c order : List Int) : PC Proofs.Tryz.prog 9 [aTr ps, .sl 6 (ts.map aPd), aInts c, aInts order] (ab true) := by
 have haw := law49_awake
 have hbig := law49_big ps
 have hma := law49_many ts
 have hsm := @bigF_sm ps
 have hsize := fun h => law49_size ps h
 have hmz : manyG ts = false → ts.length ≤ 10 ∧ ∀ t ∈ ts, szF t ≤ 1000000 := fun h => ⟨(manyG_size h).1, fun t ht => by have := (manyG_size h).2 t ht; omega⟩
 obtain ⟨pn, pe, hpk⟩ := aPeak_inv ps order
 refine PC.enter 89 [.tmp 8] [4] Proofs.Tryz.func9 rfl rfl rfl rfl rfl (by simp) (AWp.of ?_); simp only [go_sem]
 repeat (first | ((with_reducible refine AWp.ofC ?_ ?_); exact rfl; simp only [go_sem]) | ((with_reducible refine an ?_ ?_); exact Au))
 repeat ((with_reducible refine an ?_ ?_); exact As)
 refine (haw).val.use ?_; simp only [go_sem]
 repeat (first | ((with_reducible refine AWp.ofC ?_ ?_); exact rfl; simp only [go_sem]) | ((with_reducible refine an ?_ ?_); exact Au))
 repeat ((with_reducible refine an ?_ ?_); exact As)
 refine (hbig).val.use ?_; simp only [go_sem]
 repeat ((with_reducible refine an ?_ ?_); exact As)
 refine GCall.use (ab (manyG ts)) (fun _ => ⟨At, (hma).val.use ⟨rfl, rfl⟩⟩) ?_; simp only [go_sem]
 repeat ((with_reducible refine an ?_ ?_); exact As)
 refine GCall.use (ai (off ps ps.length)) ?_ ?_
 ·intro g; exact ⟨At, (hsize (hsm g.1.1.1)).val.use ⟨rfl, rfl⟩⟩
 simp only [go_sem]
 repeat ((with_reducible refine an ?_ ?_); exact As)
 repeat (first | ((with_reducible refine AWp.ofC ?_ ?_); exact rfl; simp only [go_sem]) | ((with_reducible refine an ?_ ?_); exact Au))
 refine ⟨fun h1 => ?_, fun h1 => ?_⟩
 ·repeat (first | ((with_reducible refine AWp.ofC ?_ ?_); exact rfl; simp only [go_sem]) | ((with_reducible refine an ?_ ?_); exact Au))
  refine ret_eq ?_; simp only [go_sem]
 intro h2 h3 h4 h5
 have hs := hsm h1
 obtain ⟨hl10, hz⟩ := hmz h2
 have hps := hs.procs
 have hS := prune_Safe ps hs ts hz (by omega) c (by omega)
 have hP := prune_Peak ps hs order (by omega)
 have hQ := ref49_Peak ps hs order (by omega)
 have hF := ref49_SafeFault ps hs ts hz (by omega) c (by omega)
 rw [hpk] at hP hQ
 clear haw hbig hma hsm hsize hmz hpk
 by_cases hf : safeE ps ts c = 0
 ·rw [if_pos hf] at hS
  rw [hf] at hF
  have hf2 : conF ps ts = 0 ∧ givenF ps [c] [] = 0 := by
   unfold safeE at hf
   split at hf
   ·rename_i h; exact absurd hf h
   ·rename_i h; exact ⟨by simpa using h, hf⟩
  have hcl : c.length = ps.length := (givenL.1 hf2.2).1.2 c (by simp)
  have hSf := ref49_Safe ps hs ts hz (by omega) c hf2.1 hcl
  generalize safeF ps ts c = SF at *
  repeat (first | ((with_reducible refine AWp.ofC ?_ ?_); exact rfl; simp only [go_sem]) | ((with_reducible refine an ?_ ?_); exact Au))
  repeat ((with_reducible refine an ?_ ?_); exact As)
  refine (hS).val.use ?_; simp only [go_sem]
  repeat (first | ((with_reducible refine AWp.ofC ?_ ?_); exact rfl; simp only [go_sem]) | ((with_reducible refine an ?_ ?_); exact Au))
  repeat ((with_reducible refine an ?_ ?_); exact As)
  refine (hP).val.use ?_; simp only [go_sem]
  repeat (first | ((with_reducible refine AWp.ofC ?_ ?_); exact rfl; simp only [go_sem]) | ((with_reducible refine an ?_ ?_); exact Au))
  repeat ((with_reducible refine an ?_ ?_); exact As)
  refine (hQ).val.use ?_; simp only [go_sem]
  repeat (first | ((with_reducible refine AWp.ofC ?_ ?_); exact rfl; simp only [go_sem]) | ((with_reducible refine an ?_ ?_); exact Au))
  repeat ((with_reducible refine an ?_ ?_); exact As)
  refine (hF).val.use ?_; simp only [go_sem]
  repeat (first | ((with_reducible refine AWp.ofC ?_ ?_); exact rfl; simp only [go_sem]) | ((with_reducible refine an ?_ ?_); exact Au))
  repeat ((with_reducible refine an ?_ ?_); exact As)
  refine GCall.use (ab SF) (fun _ => ⟨At, (hSf).val.use ⟨rfl, rfl⟩⟩) ?_; simp only [go_sem]
  repeat ((with_reducible refine an ?_ ?_); exact As)
  repeat (first | ((with_reducible refine AWp.ofC ?_ ?_); exact rfl; simp only [go_sem]) | ((with_reducible refine an ?_ ?_); exact Au))
  refine ret_eq ?_; simp only [go_sem]
 ·rw [if_neg hf] at hS
  generalize safeE ps ts c = SE at *
  repeat (first | ((with_reducible refine AWp.ofC ?_ ?_); exact rfl; simp only [go_sem]) | ((with_reducible refine an ?_ ?_); exact Au))
  repeat ((with_reducible refine an ?_ ?_); exact As)
  refine (hS).val.use ?_; simp only [go_sem]
  repeat (first | ((with_reducible refine AWp.ofC ?_ ?_); exact rfl; simp only [go_sem]) | ((with_reducible refine an ?_ ?_); exact Au))
  repeat ((with_reducible refine an ?_ ?_); exact As)
  refine (hP).val.use ?_; simp only [go_sem]
  repeat (first | ((with_reducible refine AWp.ofC ?_ ?_); exact rfl; simp only [go_sem]) | ((with_reducible refine an ?_ ?_); exact Au))
  repeat ((with_reducible refine an ?_ ?_); exact As)
  refine (hQ).val.use ?_; simp only [go_sem]
  repeat (first | ((with_reducible refine AWp.ofC ?_ ?_); exact rfl; simp only [go_sem]) | ((with_reducible refine an ?_ ?_); exact Au))
  repeat ((with_reducible refine an ?_ ?_); exact As)
  refine (hF).val.use ?_; simp only [go_sem]
  repeat (first | ((with_reducible refine AWp.ofC ?_ ?_); exact rfl; simp only [go_sem, hf]) | ((with_reducible refine an ?_ ?_); exact Au))
  refine ret_eq ?_; simp only [go_sem]
end Go.AL
end
section
namespace Go.AL
open Go Go.RowKit Go.ChangeShapes Go.WideShapes Go.ChangeAt
theorem Fr.below {W W' : World} (h : Fr W (keysOf []) W') : Below W.heap.size W W' := ⟨h.os, h.tape, h.output, h.size, fun k hk => h.block k hk (by rintro ⟨x, hx, _⟩; cases hx)⟩
theorem LRel.empty (W : World) (hg : ∀ g x, GV g = some x → Rel W (fun b => b < W.heap.size) x (.pointer (some ⟨g, 0, none⟩))) : LRel W (fun b => b < W.heap.size) [] := ⟨fun _ h => h, (by intro x hx; cases hx), List.nodup_nil, (by intro x hx; cases hx), hg⟩
theorem PC.calls {P : Program} {f : FuncId} {args : List AV} {x : Value} (h : PC P f args (.v x)) {W : World} {vs : List Value} (hg : ∀ g x, GV g = some x → Rel W (fun b => b < W.heap.size) x (.pointer (some ⟨g, 0, none⟩))) (hr : Rels W (fun b => b < W.heap.size) args vs) :
  Calls P f vs.toArray W fun e W' => e = .returned x ∧ Below W.heap.size W W' :=
 ((h.2 0 W _ vs (LRel.empty W hg) hr).calls (fun _ d hd => by cases hd)).mono fun e W' ⟨v, r, L', A', he, ⟨hr, _⟩, hf, _, _, _, hv⟩ => by
  subst he hr
  cases hv
  exact ⟨rfl, hf.below⟩
def Rd {H : Type} (enc : TypeId × Value → H) (P : Program) (W : World) (t : TypeId) (k : Nat) {α : Type} (E : α → AV) (ok : α → Prop) : Prop :=
 ∀ fuel cs x, DataW.trod enc P W 0 (fun _ => true) true fuel t cs = some x → ∃ y, ok y ∧ elOk k (E y) ∧ cs.length = k ∧ ∀ (i : Nat) c u, (E y).cells[i]? = some c → cs[i]? = some u → Rel W (fun b => b < W.heap.size) c u
section
variable {H : Type} {enc : TypeId × Value → H} {P : Program} {W : World} {t : TypeId}
theorem Rd.int (ht : P.underlying t = some (.int .i64)) : Rd enc P W t 1 ai (fun n => (Lit.int .i64 n).wf = true) := by
 intro fuel cs x h
 obtain ⟨n, rfl, _, hw⟩ := DataW.trod_int ht h
 refine ⟨n, hw, ⟨rfl, rfl⟩, rfl, fun i c u h1 h2 => ?_⟩
 cases i with
 | zero => cases h1; cases h2; exact .v _
 | succ i => cases h2
theorem Rd.str (ht : P.underlying t = some .string) : Rd enc P W t 1 (fun s => .v (.string s)) (fun _ => True) := by
 intro fuel cs x h
 obtain ⟨s, rfl, _, hw⟩ := DataW.trod_string ht h
 refine ⟨s, trivial, ⟨rfl, rfl⟩, rfl, fun i c u h1 h2 => ?_⟩
 cases i with
 | zero => cases h1; cases h2; exact .v _
 | succ i => cases h2
theorem ofFin {α : Type} {len : Nat} {Q : Nat → α → Prop} (h : ∀ i, i < len → ∃ y, Q i y) : ∃ l : List α, l.length = len ∧ ∀ (i : Nat) (hi : i < l.length), Q i l[i] := by
 refine ⟨List.ofFn fun i : Fin len => Classical.choose (h i i.2), List.length_ofFn, fun i hi => ?_⟩
 rw [List.getElem_ofFn]
 exact Classical.choose_spec (h i (by simpa using hi))
theorem add_none (b off n : Nat) : (⟨b, off, none⟩ : Addr).add n = ⟨b, off + n, none⟩ := by
 unfold Addr.add; split
 ·rename_i h; rw [h]; rfl
 ·rfl
theorem Rd.slice {α : Type} {E : α → AV} {ok : α → Prop} {e : TypeId} {k : Nat} (ht : P.underlying t = some (.slice e)) (hk : P.cellsOf e = k) (h0 : 0 < k) (he : Rd enc P W e k E ok) :
  Rd enc P W t 1 (fun l : List α => .sl k (l.map E)) (fun l => l.length ≤ maxLen ∧ ∀ y ∈ l, ok y) := by
 intro fuel cs x h
 rcases DataW.trod_slice ht h with ⟨rfl, _⟩ | ⟨a, len, cap, elems, rest, n, _, rfl, _, _, hl, hm, hlen, hel, _, _⟩
 ·refine ⟨[], ⟨by simp, by simp⟩, ⟨rfl, rfl⟩, rfl, fun i c u h1 h2 => ?_⟩
  cases i with
  | zero => cases h1; cases h2; exact .sl0 k none 0 (by simp)
  | succ i => cases h2
 ·rw [hk] at hel
  obtain ⟨l, hll, hli⟩ := ofFin (len := len) (Q := fun i y => ∃ cs : List Value, ok y ∧ elOk k (E y) ∧ cs.length = k ∧ (∀ m, m < k → W.cell? ((a.add (i * k)).add m) = cs[m]?) ∧ ∀ (m : Nat) c u, (E y).cells[m]? = some c → cs[m]? = some u → Rel W (fun b => b < W.heap.size) c u) fun i hi => by
   have h1 := hel i hi
   rw [List.getElem?_eq_getElem (by omega), Option.bind_eq_some_iff] at h1
   obtain ⟨cs, hc, ht⟩ := h1
   obtain ⟨y, k1, k2, k3, k4⟩ := he _ _ _ ht
   exact ⟨y, cs, k1, k2, k3, (World.cells?_some hc).2.2, k4⟩
  refine ⟨l, ⟨by omega, fun y hy => ?_⟩, ⟨rfl, rfl⟩, rfl, fun i c u h1 h2 => ?_⟩
  ·obtain ⟨i, hi, rfl⟩ := List.getElem_of_mem hy
   obtain ⟨_, h, _⟩ := hli i (by omega); exact h
  ·cases i with
   | succ i => cases h2
   | zero =>
    cases h1; cases h2
    by_cases hz : len = 0
    ·subst hz
     rw [List.length_eq_zero_iff.1 hll]
     exact .sl0 k _ cap hm
    ·obtain ⟨b, off, spot⟩ := a
     obtain ⟨cs0, _, _, c3, c4, _⟩ := hli 0 (by omega)
     have hs : spot = none := by
      have := c4 0 h0
      have e0 : ∀ a : Addr, a.add 0 = a := fun _ => rfl
      rw [Nat.zero_mul, e0, e0, List.getElem?_eq_getElem (by omega)] at this
      cases spot with
      | none => rfl
      | some s =>
       exfalso
       unfold World.cell? at this
       split at this
       ·rw [if_pos (show (some s).isSome = true from rfl)] at this; cases this
       ·cases this
     subst hs
     have cell : ∀ (i : Nat) (hi : i < len) (m : Nat), m < k → ∃ u, W.cell? ⟨b, off + (i * k + m), none⟩ = some u ∧ ∀ c, (E (l[i]'(by omega))).cells[m]? = some c → Rel W (fun b => b < W.heap.size) c u := fun i hi m hm => by
      obtain ⟨cs, _, _, c3, c4, c5⟩ := hli i (by omega)
      have := c4 m hm
      rw [add_none, add_none, Nat.add_assoc, List.getElem?_eq_getElem (by omega)] at this
      exact ⟨_, this, fun c hc => c5 m c _ hc (List.getElem?_eq_getElem (by omega))⟩
     have hA : b < W.heap.size := by
      obtain ⟨u, hu, _⟩ := cell 0 (by omega) 0 h0
      unfold World.cell? at hu
      cases hb : W.heap[b]? with
      | none => simp [hb] at hu
      | some o => exact (Array.getElem?_eq_some_iff.1 hb).1
     have := Rel.sl (w := W) (A := fun b => b < W.heap.size) k (l.map E) b off cap (fun j => (W.cell? ⟨b, off + j, none⟩).getD undef) hA (by rw [List.length_map]; omega) hm
      (fun x hx => by
       obtain ⟨y, hy, rfl⟩ := List.mem_map.1 hx
       obtain ⟨i, hi, rfl⟩ := List.getElem_of_mem hy
       obtain ⟨cs, _, c2, _⟩ := hli i (by omega)
       exact c2)
      (fun j hj => by
       rw [List.length_map, hll] at hj
       have h1 : j / k < len := (Nat.div_lt_iff_lt_mul h0).2 hj
       obtain ⟨u, hu, _⟩ := cell (j / k) h1 (j % k) (Nat.mod_lt _ h0)
       have e : j / k * k + j % k = j := Nat.div_add_mod' j k
       rw [e] at hu
       rw [hu]; rfl)
      (fun i x j y hx hy => by
       rw [List.getElem?_map, Option.map_eq_some_iff] at hx
       obtain ⟨z, hz, rfl⟩ := hx
       obtain ⟨hi, rfl⟩ := List.getElem?_eq_some_iff.1 hz
       obtain ⟨cs, _, c2, _⟩ := hli i (by omega)
       have hj : j < k := by have := (List.getElem?_eq_some_iff.1 hy).1; have := c2.1; omega
       obtain ⟨u, hu, hr⟩ := cell i (by omega) j hj
       rw [hu]
       exact hr _ hy)
     rw [List.length_map, hll] at this
     exact this
theorem trodAll_stays {W' : World} (hl : laidOutB P = true) (hb : Below W.heap.size W W') : ∀ {ts : List TypeId} {vs : List Value} {ds : List (DataW H)} {ps : List MemPlace}, (∀ t ∈ ts, P.readableRec t = true ∧ t < P.types.size) → DataW.TrodAll enc P W 0 (fun _ => true) true ts vs ds ps →
  DataW.TrodAll enc P W' 0 (fun b => decide (b < W.heap.size)) true ts vs ds ps
 | [], _, _, _, _, h => by
  obtain ⟨rfl, rfl, rfl⟩ := trodAll_nil h
  rfl
 | t :: ts, _, _, _, ht, h => by
  have hlt := h.lt
  obtain ⟨v, vs1, d, ds1, a, b, rfl, rfl, rfl, h1, h2⟩ := trodAll_cons h
  exact ⟨a, b, Below.trod hl (ht t List.mem_cons_self).1 (ht t List.mem_cons_self).2 h1 hb (fun x hx => hlt x (List.mem_append_left _ hx)), trodAll_stays hl hb (fun t' ht' => ht t' (List.mem_cons_of_mem _ ht')) h2, rfl⟩
theorem post_true {f : Func} {s : ChangeSpec} {fresh handsOn : Bool} {W' : World} {args : Array Value} {ds : List (DataW H)} {before : List MemPlace} {tb : TypeId} (hl : laidOutB P = true)
  (hW : DataW.Whole enc P f.params.toList s.vars false W args.toList ds [] before) (hv : s.vars = []) (hs : s.fn H (ds ++ []) = { results := [.lit (.bool true)], args := ds })
  (hr : f.resultTypes = #[tb]) (ht : P.underlying tb = some .bool) (hp : ∀ t ∈ f.params.toList, P.readableRec t = true ∧ t < P.types.size) (hb : Below W.heap.size W W') :
  s.post enc P f false fresh handsOn false W args (.bool true) W' := by
 have hW0 := hW
 obtain ⟨p, q, hA, hV, rfl, _, _⟩ := hW0
 refine ⟨ds, [], p ++ q, [], p, [], hW, ?_, ?_, ?_, hb.frame _, fun h => by cases h⟩
 ·rw [hs, hr]
  exact ⟨[], [], ⟨1, by simp [DataW.trod, Value.cells, ht]⟩, rfl, rfl⟩
 ·rw [hs]
  exact trodAll_stays hl hb hp hA
 ·rw [hs, hv]; rfl
end
end Go.AL
end
section
namespace Go.AL
open Go Go.RowKit Go.ChangeShapes Go.WideShapes Go.ChangeAt
section
variable {H : Type} {enc : TypeId × Value → H} {P : Program} {W : World} {t : TypeId}
theorem Rd.map {α β : Type} {k : Nat} {E : α → AV} {E' : β → AV} {ok : α → Prop} {ok' : β → Prop} (f : α → β) (hE : ∀ y, E y = E' (f y)) (hok : ∀ y, ok y → ok' (f y)) (h : Rd enc P W t k E ok) : Rd enc P W t k E' ok' := by
 intro fuel cs x hx
 obtain ⟨y, k1, k2, k3, k4⟩ := h fuel cs x hx
 exact ⟨f y, hok y k1, by rw [← hE]; exact k2, k3, by rw [← hE]; exact k4⟩
def RdL (enc : TypeId × Value → H) (P : Program) (W : World) (ts : List TypeId) {α : Type} (E : α → List AV) (ok : α → Prop) : Prop :=
 ∀ (n : Nat) (cs : List Value) (xs : List (DataW H × List MemPlace)), xs.length = ts.length → cs.length = ts.length →
  (∀ (i : Nat) t, ts[i]? = some t → DataW.trod enc P W 0 (fun _ => true) true n t ((cs.drop i).take 1) = xs[i]?) →
  ∃ y, ok y ∧ (E y).length = ts.length ∧ (E y).all one = true ∧ ∀ (i : Nat) c u, (E y)[i]? = some c → cs[i]? = some u → Rel W (fun b => b < W.heap.size) c u
theorem RdL.nil : RdL enc P W [] (fun _ : Unit => []) (fun _ => True) := by
 intro n cs xs _ _ _
 exact ⟨(), trivial, rfl, rfl, fun i c u h => by simp at h⟩
theorem RdL.cons {α β : Type} {E : α → AV} {ok : α → Prop} {ts : List TypeId} {F : β → List AV} {ok' : β → Prop} (h : Rd enc P W t 1 E ok) (h1 : ∀ y, one (E y) = true ∧ (E y).cells = [E y]) (hs : RdL enc P W ts F ok') :
  RdL enc P W (t :: ts) (fun y : α × β => E y.1 :: F y.2) (fun y => ok y.1 ∧ ok' y.2) := by
 intro n cs xs hx hc hi
 match xs, cs, hx, hc with
 | x :: xs, u :: cs, hx, hc =>
  have h0 := hi 0 t rfl
  simp only [List.drop_zero, List.take_succ_cons, List.take_zero, List.getElem?_cons_zero] at h0
  obtain ⟨y, k1, _, _, k4⟩ := h _ _ _ h0
  obtain ⟨z, g1, g2, g3, g4⟩ := hs n cs xs (by simpa using hx) (by simpa using hc) fun i t' ht => by
   have := hi (i + 1) t' (by simpa using ht)
   simpa using this
  refine ⟨(y, z), ⟨k1, g1⟩, by simp [g2], by simp [g3, (h1 y).1], fun i c u' hcc hu => ?_⟩
  cases i with
  | zero => cases hcc; cases hu; exact k4 0 _ _ (by rw [(h1 y).2]; rfl) rfl
  | succ i => exact g4 i c u' (by simpa using hcc) (by simpa using hu)
theorem Rd.struct {fs : Array Field} {α : Type} {ts : List TypeId} {F : α → List AV} {ok : α → Prop} (ht : P.underlying t = some (.struct fs)) (hts : fs.toList.map (·.type) = ts) (hof : fs.toList.map (·.offset) = List.range ts.length) (hk : P.cellsOf t = ts.length)
  (hc : (ts.all fun t => P.cellsOf t == 1) = true) (h : RdL enc P W ts F ok) : Rd enc P W t ts.length (fun y => .agg (F y)) ok := by
 intro fuel cs x hx
 obtain ⟨xs, n, _, _, hl, hlen, hf⟩ := DataW.trod_struct ht hx
 have hfl : fs.size = ts.length := by rw [← hts]; simp
 obtain ⟨y, k1, k2, k3, k4⟩ := h n cs xs (by omega) (by omega) fun i t' ht' => by
  have hi : i < ts.length := (List.getElem?_eq_some_iff.1 ht').1
  have hg : fs[i]? = some fs[i] := Array.getElem?_eq_getElem (by omega)
  have e1 : (fs[i]).type = t' := by
   rw [← hts, List.getElem?_map, Array.getElem?_toList, hg] at ht'
   exact Option.some.inj ht'
  have e2 : (fs[i]).offset = i := by
   have : (fs.toList.map (·.offset))[i]? = some i := by rw [hof, List.getElem?_range hi]
   rw [List.getElem?_map, Array.getElem?_toList, hg] at this
   exact Option.some.inj this
  have := hf i _ hg
  have hct : P.cellsOf t' = 1 := by
   have := List.all_eq_true.1 hc _ (List.mem_of_getElem? ht')
   simpa using this
  rw [e1, e2, hct] at this
  exact this
 exact ⟨y, k1, ⟨k2, k3⟩, by omega, k4⟩
theorem Rd.agg {α : Type} {k : Nat} {E : α → AV} {F : α → List AV} {ok : α → Prop} (hE : ∀ y, E y = .agg (F y)) (h : Rd enc P W t k E ok) {v : Value} {d : DataW H} {ps : List MemPlace} (ha : ∃ us, v = .agg us)
  (hd : DataW.Trod enc P W 0 (fun _ => true) true t v d ps) : ∃ y, ok y ∧ Rel W (fun b => b < W.heap.size) (E y) v := by
 obtain ⟨us, rfl⟩ := ha
 obtain ⟨fuel, hf⟩ := hd
 obtain ⟨y, k1, k2, k3, k4⟩ := h _ _ _ hf
 refine ⟨y, k1, ?_⟩
 have e1 : (E y).cells = F y := by rw [hE]; rfl
 have e2 : (Value.agg us).cells.toList = us.toList := rfl
 have k5 := k2.1
 rw [e1] at k4 k5
 rw [e2] at k3 k4
 rw [hE]
 refine .agg _ _ ?_ fun i c u h1 h2 => k4 i c u h1 (by simpa using h2)
 rw [k5, ← k3]; simp
theorem okWide_agg {r : Go.Reach} {b : Nat} {fs : Array Field} {v : Value} (ht : P.underlying t = some (.struct fs)) (h : Value.okWide P W r b t v) : ∃ us, v = .agg us := by
 unfold Value.okWide at h
 rw [ht] at h
 obtain ⟨cs, h1, _⟩ := h
 exact ⟨cs, h1⟩
theorem Rd.one {α : Type} {E : α → AV} {ok : α → Prop} (h : Rd enc P W t 1 E ok) (h1 : ∀ y, (E y).cells = [E y]) {v : Value} {d : DataW H} {ps : List MemPlace} (hc : v.cells = #[v])
  (hd : DataW.Trod enc P W 0 (fun _ => true) true t v d ps) : ∃ y, ok y ∧ Rel W (fun b => b < W.heap.size) (E y) v := by
 obtain ⟨fuel, hf⟩ := hd
 rw [hc] at hf
 obtain ⟨y, k1, _, _, k4⟩ := h _ _ _ hf
 exact ⟨y, k1, k4 0 _ _ (by rw [h1]; rfl) rfl⟩
theorem okWide_cells {r : Go.Reach} {b : Nat} {e : TypeId} {v : Value} (ht : P.underlying t = some (.slice e)) (h : Value.okWide P W r b t v) : v.cells = #[v] := by
 cases v with
 | agg cs =>
  exfalso
  simp only [Value.okWide, ht, Cell.okWide, Cell.ok] at h
 | _ => rfl
end
end Go.AL
end
