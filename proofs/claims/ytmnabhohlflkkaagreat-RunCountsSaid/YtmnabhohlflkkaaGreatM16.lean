/- Texts of this claim's proof: WU7+1, WU3+1, WU4+1, WU5+1, WU8+1, WRt+1. No condition. -/
import Derived.Test.YtmnabhohlflkkaaGreatM0
import Derived.Test.YtmnabhohlflkkaaGreatM1
import Derived.Test.YtmnabhohlflkkaaGreatM2
import Derived.Test.YtmnabhohlflkkaaGreatM3
import Derived.Test.YtmnabhohlflkkaaGreatM4
import Derived.Test.YtmnabhohlflkkaaGreatM5
import Derived.Test.YtmnabhohlflkkaaGreatM6
import Derived.Test.YtmnabhohlflkkaaGreatM7
import Derived.Test.YtmnabhohlflkkaaGreatM8
import Derived.Test.YtmnabhohlflkkaaGreatM9
import Derived.Test.YtmnabhohlflkkaaGreatM10
import Derived.Test.YtmnabhohlflkkaaGreatM11
import Derived.Test.YtmnabhohlflkkaaGreatM12
import Derived.Test.YtmnabhohlflkkaaGreatM13
import Derived.Test.YtmnabhohlflkkaaGreatM14
import Derived.Test.YtmnabhohlflkkaaGreatM15
section
namespace Go.AL
open Go Go.RowKit
set_option maxRecDepth 4000
theorem law24_short1 (c : List Int) : PC Go.Proofs.Tryz.prog 59 [aInts c] (ab (longC c)) := by
  refine PC.enter 6 [.tmp 2] [] Go.Proofs.Tryz.func59 rfl rfl rfl rfl rfl (by simp) (AWp.of ?_); simp only [go_sem]
  repeat (first | ((with_reducible refine AWp.ofC ?_ ?_); (focus exact rfl); simp only [go_sem]) | ((with_reducible refine an ?_ ?_); focus exact Au))
  refine ret_eq ?_; simp only [go_sem]
  rfl
theorem law24_short (l : List (List Int)) : PC Go.Proofs.Tryz.prog 15 [aRows l] (ab (shortF l)) := by
  have haR : ∀ x : List (List Int), aRows x = .sl 1 (x.map aInts) := fun _ => rfl
  unfold shortF
  rw [haR]
  refine PC.enter 11 [.tmp 2] [] Go.Proofs.Tryz.func15 rfl rfl rfl rfl rfl (by simp) (AWp.of ?_); simp only [go_sem]
  repeat (first | ((with_reducible refine AWp.ofC ?_ ?_); (focus exact rfl); simp only [go_sem]) | ((with_reducible refine an ?_ ?_); focus exact Au))
  refine GCall.use (ab (l.any longC)) (fun hg => ⟨At, (rows_containsFunc l (by omega) _ rfl longC fun c _ => (law24_short1 c).val).val.use ⟨rfl, rfl⟩⟩) ?_
  simp only [go_sem]
  repeat (first | ((with_reducible refine AWp.ofC ?_ ?_); (focus exact rfl); simp only [go_sem]) | ((with_reducible refine an ?_ ?_); focus exact Au))
  refine ret_eq ?_; simp only [go_sem]
theorem shortF_spec {l : List (List Int)} (h : shortF l = true) : l.length ≤ 100 ∧ ∀ c ∈ l, c.length ≤ 20 := by
  unfold shortF at h
  rw [Bool.and_eq_true, decide_eq_true_eq, Bool.not_eq_true', List.any_eq_false] at h
  refine ⟨by omega, fun c hc => ?_⟩
  have := h.2 c hc
  unfold longC at this
  simp at this
  omega
end Go.AL
end
section
namespace Go.AL
open Go Go.RowKit
set_option maxRecDepth 4000
theorem stepG_neg {a b : List Int} : ∀ {k : Nat}, stepG a b k = none → ∀ {m : Nat}, stepG a b (k + m) = none
  | k, h, 0 => h
  | k, h, m + 1 => by
    have e : stepG a b (k + m + 1) = match stepG a b (k + m) with
      | none => none
      | some p => if cAt a (k + m : Nat) = cAt b (k + m : Nat) then some p else if 0 ≤ p ∨ ¬ cAt b (k + m : Nat) = cAt a (k + m : Nat) + 1 then none else some (k + m : Nat) := rfl
    show stepG a b (k + m + 1) = none
    rw [e, stepG_neg h]
theorem ref24_step (a b : List Int) (ha : Cb a) (_hb : ∀ z ∈ b, -9223372036854775808 ≤ z ∧ z ≤ 9223372036854775807) : PC Go.Proofs.Tryz.prog 79 [aInts a, aInts b] (ai (stepF a b)) := by
  have hal := ha.1
  by_cases hl : a.length = b.length
  · have hli : (a.length : Int) = b.length := by omega
    have hF : stepF a b = (stepG a b a.length).getD (-1) := by unfold stepF; rw [if_pos hl]
    rw [hF]
    refine PC.enter 43 [.tmp 4] [] Go.Proofs.Tryz.func79 rfl rfl rfl rfl rfl (by simp) (AWp.of ?_); simp only [go_sem]
    repeat (first | ((with_reducible refine AWp.ofC ?_ ?_); (focus exact rfl); simp only [go_sem, hli]) | ((with_reducible refine an ?_ ?_); focus exact Au))
    refine AWp.block (AWp.count 6 a.length [5] [0, 1] (fun k vs L => L = [] ∧ ∃ z, vs = [ai z] ∧ stepG a b k = some z) rfl rfl ⟨rfl, -1, rfl, rfl⟩ ?_)
    rintro k vs L hk - ⟨rfl, z, rfl, hz⟩
    simp only [go_sem]
    by_cases hka : k < a.length
    · have hki : (k : Int) < (b.length : Int) := by omega
      have hkb : k < b.length := by omega
      have ga := getD_map (f := ai) hka
      have gb := getD_map (f := ai) hkb
      have sa := ha.2 _ (List.getElem_mem hka)
      have hst : stepG a b (k + 1) = if cAt a k = cAt b k then some z else if 0 ≤ z ∨ ¬ cAt b k = cAt a k + 1 then none else some (k : Int) := by
        show (match stepG a b k with
          | none => none
          | some p => if cAt a k = cAt b k then some p else if 0 ≤ p ∨ ¬ cAt b k = cAt a k + 1 then none else some (k : Int)) = _
        rw [hz]
      rw [cAt_nat hka, cAt_nat hkb] at hst
      repeat (first | ((with_reducible refine AWp.ofC ?_ ?_); (focus exact rfl); simp only [go_sem, hki, hli]) | ((with_reducible refine an ?_ ?_); focus exact Au))
      repeat (first | (with_reducible refine AWp.seq ?_) | (with_reducible refine AWp.block ?_))
      refine AWp.read mixed [0, 1, 2, 3, 4, 5, 6, 7, 8] (by kernel_rfl) ?_; simp only [go_sem, ga, gb]
      repeat ((with_reducible refine an ?_ ?_); focus exact As)
      by_cases h1 : a[k] = b[k]
      · rw [if_pos h1] at hst
        repeat (first | ((with_reducible refine AWp.ofC ?_ ?_); (focus exact rfl); simp only [go_sem, h1]) | ((with_reducible refine an ?_ ?_); focus exact Au))
        exact ⟨_, List.Sublist.refl _, rfl, z, rfl, hst⟩
      · rw [if_neg h1] at hst
        repeat (first | ((with_reducible refine AWp.ofC ?_ ?_); (focus exact rfl); simp only [go_sem, h1]) | ((with_reducible refine an ?_ ?_); focus exact Au))
        repeat (first | (with_reducible refine AWp.seq ?_) | (with_reducible refine AWp.block ?_))
        refine AWp.read mixed [0, 1, 2, 3, 4, 5, 6, 7, 8, 9, 10, 11, 12, 13] (by kernel_rfl) ?_; simp only [go_sem, ga, gb]
        repeat ((with_reducible refine an ?_ ?_); focus exact As)
        repeat (first | ((with_reducible refine AWp.ofC ?_ ?_); (focus exact rfl); simp only [go_sem]) | ((with_reducible refine an ?_ ?_); focus exact Au))
        refine ⟨fun h2 => ?_, fun h2 h3 => ?_⟩
        · rw [if_pos h2] at hst
          have hno : stepG a b a.length = none := by
            have := stepG_neg hst (m := a.length - (k + 1))
            rwa [show k + 1 + (a.length - (k + 1)) = a.length by omega] at this
          rw [hno]
          repeat (first | ((with_reducible refine AWp.ofC ?_ ?_); (focus exact rfl); simp only [go_sem]) | ((with_reducible refine an ?_ ?_); focus exact Au))
          refine ret_eq ?_; simp only [go_sem]
          rfl
        · rw [if_neg (fun h => h.elim h2 fun h => h h3)] at hst
          repeat (first | ((with_reducible refine AWp.ofC ?_ ?_); (focus exact rfl); simp only [go_sem]) | ((with_reducible refine an ?_ ?_); focus exact Au))
          exact ⟨_, List.Sublist.refl _, rfl, k, rfl, hst⟩
    · have : k = a.length := by omega
      subst this
      have hki : ¬ (b.length : Int) < (b.length : Int) := by omega
      rw [hz]
      repeat (first | ((with_reducible refine AWp.ofC ?_ ?_); (focus exact rfl); simp only [go_sem, hki, hli]) | ((with_reducible refine an ?_ ?_); focus exact Au))
      refine ret_eq ?_; simp only [go_sem]
      rfl
  · have hli : ¬ (a.length : Int) = b.length := by omega
    have hF : stepF a b = -1 := by unfold stepF; rw [if_neg hl]
    rw [hF]
    refine PC.enter 43 [.tmp 4] [] Go.Proofs.Tryz.func79 rfl rfl rfl rfl rfl (by simp) (AWp.of ?_); simp only [go_sem]
    repeat (first | ((with_reducible refine AWp.ofC ?_ ?_); (focus exact rfl); simp only [go_sem, hli]) | ((with_reducible refine an ?_ ?_); focus exact Au))
    refine ret_eq ?_; simp only [go_sem]
theorem isR_nil (ps : List Pr) : isR ps [] = false := by unfold isR; cases validF ps <;> rfl
theorem cb_small {c : List Int} (h : Cb c) : ∀ z ∈ c, -9223372036854775808 ≤ z ∧ z ≤ 9223372036854775807 := fun z hz => by have := h.2 z hz; omega
set_option maxHeartbeats 1000000 in
theorem ref24_Is (ps : List Pr) (hs : Sm ps) (r : List (List Int)) (hl : r.length ≤ 1000000) (hx : ∀ x ∈ r, x.length ≤ 1000000) : PC Go.Proofs.Tryz.prog 35 [aTr ps, aRows r] (ab (isR ps r)) := by
  have hva := ref12_Valid ps hs
  have haR : ∀ x : List (List Int), aRows x = .sl 1 (x.map aInts) := fun _ => rfl
  have hpl := hs.procs
  have hLe := ref12_Lengths ps hs
  have hir : isR ps r = (validF ps && isRunF ps r) := rfl
  have hrep : List.replicate ps.length (AV.v (.int .i64 0)) = (zeroC ps).map ai := by unfold zeroC; rw [List.map_replicate]
  have hzl : (zeroC ps).length = ps.length := by simp [zeroC]
  cases r with
  | nil =>
    rw [isR_nil, haR]
    have z0 : (((0 : Nat) : Int) = 0) = True := eq_true rfl
    refine PC.enter 67 [.tmp 4] [2, 21] Go.Proofs.Tryz.func35 rfl rfl rfl rfl rfl (by simp) (AWp.of ?_); simp only [go_sem]
    repeat (first | ((with_reducible refine AWp.ofC ?_ ?_); (focus exact rfl); simp only [go_sem]) | ((with_reducible refine an ?_ ?_); focus exact Au))
    repeat (first | (with_reducible refine AWp.seq ?_) | (with_reducible refine AWp.block ?_))
    refine AWp.mix mixed [0, 1, 2, 3, 4, 5, 6, 7, 8, 9, 10, 11, 12, 13, 14, 15, 16, 17, 18, 19, 20, 21, 22, 23, 24, 25, 26, 27, 28, 29, 30] .done (by kernel_rfl) ?_; simp only [go_sem]
    repeat ((with_reducible refine an ?_ ?_); focus exact As)
    refine GCall.use (ab (validF ps)) (fun _ => ⟨At, (hva).val.use ⟨rfl, rfl⟩⟩) ?_; simp only [go_sem, List.getD_nil, z0]
    refine GCall.use (ab false) (fun h => by simp at h) ?_
    simp only [go_sem, List.getD_nil]
    refine GCall.use (aInts []) (fun h => by simp at h) ?_
    simp only [go_sem]
    refine GCall.use (ab false) (fun h => by simp at h) ?_
    simp only [go_sem]
    repeat (first | ((with_reducible refine AWp.ofC ?_ ?_); (focus exact rfl); simp only [go_sem]) | ((with_reducible refine an ?_ ?_); focus exact Au))
    refine ret_eq ?_; simp only [go_sem]
  | cons a r =>
    have hal := hx a List.mem_cons_self
    obtain ⟨lst, hlst⟩ : ∃ lst, (a :: r)[r.length]'(by simp) = lst := ⟨_, rfl⟩
    have hll : lst.length ≤ 1000000 := hx lst (by rw [← hlst]; exact List.getElem_mem _)
    have hgl : (a :: r).getLast? = some lst := by
      rw [List.getLast?_eq_getElem?, ← hlst, List.getElem?_eq_getElem (by simp)]
      congr 1
    have hsF : isR ps (a :: r) = (validF ps && ((decide (a = zeroC ps) && decide (lst = fullC ps)) && chnF ps a r)) := by
      rw [hir]
      show (validF ps && (decide (a = zeroC ps ∧ (a :: r).getLast? = some (fullC ps)) && chnF ps a r)) = _
      rw [hgl, Bool.decide_and]
      congr 3
      exact decide_eq_decide.2 ⟨fun h => Option.some.inj h, fun h => congrArg some h⟩
    have he1 := ref24_same a (zeroC ps) hal
    have he2 := ref24_same lst (fullC ps) hll
    have hR0 : ((a :: r).map aInts).getD 0 .any = aInts a := rfl
    have hRl : ((a :: r).map aInts).getD r.length .any = aInts lst := by
      rw [List.getD_eq_getElem?_getD, List.getElem?_map, List.getElem?_eq_getElem (by simp), hlst]; rfl
    have hRn : ((a :: r).map aInts).length = r.length + 1 := by rw [List.length_map, List.length_cons]
    have hrl : r.length ≤ 1000000 := by rw [List.length_cons] at hl; omega
    have hix : (((r.length + 1 : Nat) : Int) - 1).toNat = r.length := by omega
    have hn0 : ¬ (((r.length + 1 : Nat) : Int) = 0) := by omega
    have hRg : ∀ k (hk : k < (a :: r).length), ((a :: r).map aInts).getD k .any = aInts (a :: r)[k] := fun k hk => getD_map hk
    have hci := chn_iff (ps := ps) (r := r) (a := a)
    have hI := fun hv d => ref23_Is ps hs (valid_len hv).1 d
    have hxg : ∀ k (hk : k < (a :: r).length), ((a :: r)[k]).length ≤ 1000000 := fun k hk => hx _ (List.getElem_mem hk)
    rw [haR, hsF]
    generalize hR : (a :: r).map aInts = R at *
    generalize chnF ps a r = ch at *
    cases hv : validF ps with
    | false =>
      rw [hv] at hva
      refine PC.enter 67 [.tmp 4] [2, 21] Go.Proofs.Tryz.func35 rfl rfl rfl rfl rfl (by simp) (AWp.of ?_); simp only [go_sem]
      repeat (first | ((with_reducible refine AWp.ofC ?_ ?_); (focus exact rfl); simp only [go_sem]) | ((with_reducible refine an ?_ ?_); focus exact Au))
      repeat (first | (with_reducible refine AWp.seq ?_) | (with_reducible refine AWp.block ?_))
      refine AWp.mix mixed [0, 1, 2, 3, 4, 5, 6, 7, 8, 9, 10, 11, 12, 13, 14, 15, 16, 17, 18, 19, 20, 21, 22, 23, 24, 25, 26, 27, 28, 29, 30] .done (by kernel_rfl) ?_; simp only [go_sem]
      repeat ((with_reducible refine an ?_ ?_); focus exact As)
      refine GCall.use (ab false) (fun _ => ⟨At, (hva).val.use ⟨rfl, rfl⟩⟩) ?_; simp only [go_sem, hR0, hRn, hn0, hrep]
      refine GCall.use (ab false) (fun h => by simp at h) ?_
      simp only [go_sem, hRl, hRn, hix]
      refine GCall.use (aInts []) (fun h => by simp at h) ?_
      simp only [go_sem]
      refine GCall.use (ab false) (fun h => by simp at h) ?_
      simp only [go_sem]
      repeat (first | ((with_reducible refine AWp.ofC ?_ ?_); (focus exact rfl); simp only [go_sem]) | ((with_reducible refine an ?_ ?_); focus exact Au))
      refine ret_eq ?_; simp only [go_sem]
    | true =>
      rw [hv] at hva
      have hI := hI hv
      refine PC.enter 67 [.tmp 4] [2, 21] Go.Proofs.Tryz.func35 rfl rfl rfl rfl rfl (by simp) (AWp.of ?_); simp only [go_sem]
      repeat (first | ((with_reducible refine AWp.ofC ?_ ?_); (focus exact rfl); simp only [go_sem]) | ((with_reducible refine an ?_ ?_); focus exact Au))
      repeat (first | (with_reducible refine AWp.seq ?_) | (with_reducible refine AWp.block ?_))
      refine AWp.mix mixed [0, 1, 2, 3, 4, 5, 6, 7, 8, 9, 10, 11, 12, 13, 14, 15, 16, 17, 18, 19, 20, 21, 22, 23, 24, 25, 26, 27, 28, 29, 30] .done (by kernel_rfl) ?_; simp only [go_sem]
      repeat ((with_reducible refine an ?_ ?_); focus exact As)
      refine GCall.use (ab true) (fun _ => ⟨At, (hva).val.use ⟨rfl, rfl⟩⟩) ?_; simp only [go_sem, hR0, hRn, hn0, hrep]
      repeat ((with_reducible refine an ?_ ?_); focus exact As)
      repeat ((with_reducible refine an ?_ ?_); focus exact As)
      refine GCall.use (ab (decide (a = zeroC ps))) (fun _ => ⟨At, (he1).val.use ⟨rfl, rfl⟩⟩) ?_; simp only [go_sem, hRl, hRn, hix]
      repeat ((with_reducible refine an ?_ ?_); focus exact As)
      repeat ((with_reducible refine an ?_ ?_); focus exact As)
      refine GCall.use (aInts (fullC ps)) (fun _ => ⟨At, (hLe).val.use ⟨rfl, rfl⟩⟩) ?_; simp only [go_sem]
      repeat ((with_reducible refine an ?_ ?_); focus exact As)
      refine GCall.use (ab (decide (lst = fullC ps))) (fun _ => ⟨At, (he2).val.use ⟨rfl, rfl⟩⟩) ?_; simp only [go_sem]
      by_cases hc : a = zeroC ps ∧ lst = fullC ps
      · have d1 := decide_eq_true hc.1
        have d2 := decide_eq_true hc.2
        rw [d1, d2]
        repeat (first | ((with_reducible refine AWp.ofC ?_ ?_); (focus exact rfl); simp only [go_sem]) | ((with_reducible refine an ?_ ?_); focus exact Au))
        refine AWp.block (AWp.count 5 (r.length + 1) [] [1, 2] (fun k vs L => L = [] ∧ ∀ j (hj : j < (a :: r).length), j < k → isF ps (a :: r)[j] = true ∧ (0 < j → 0 ≤ stepF ((a :: r)[j - 1]'(by omega)) (a :: r)[j])) rfl rfl ⟨rfl, fun j _ h => by omega⟩ ?_)
        rintro k vs L hk - ⟨rfl, hJ⟩
        simp only [go_sem]
        by_cases hkl : k < r.length + 1
        · have hki : (k : Int) < ((r.length + 1 : Nat) : Int) := by omega
          have hk1 : k < (a :: r).length := by rw [List.length_cons]; omega
          have hgk := hRg k hk1
          have hIk := hI (a :: r)[k]
          have hno : isF ps (a :: r)[k] = false ∨ (∃ h : 0 < k, ¬ 0 ≤ stepF ((a :: r)[k - 1]'(by omega)) (a :: r)[k]) → ch = false := fun h => by
            cases hch : ch with
            | false => rfl
            | true =>
              exfalso
              have h2 := hci.1 hch
              rcases h with h | ⟨h0, h⟩
              · cases k with
                | zero =>
                  have : (a :: r)[0] = zeroC ps := hc.1
                  rw [this, zeroC_is] at h; cases h
                | succ k =>
                  have := (h2 k (by omega)).1
                  have e : (a :: r)[k + 1] = r[k] := rfl
                  rw [e, this] at h; cases h
              · cases k with
                | zero => omega
                | succ k => exact h (h2 k (by omega)).2
          by_cases hk0 : k = 0
          · subst hk0
            have hF : isF ps (a :: r)[0] = true := by
              have : (a :: r)[0] = zeroC ps := hc.1
              rw [this]; exact zeroC_is ps
            rw [hF] at hIk
            have hgm : R.getD (((0 : Nat) : Int) - 1).toNat .any = aInts a := hR0
            have z0 : ¬ (0 : Int) < ((0 : Nat) : Int) := by omega
            have hki : ((0 : Nat) : Int) < ((r.length + 1 : Nat) : Int) := by omega
            have hst : ∀ j (hj : j < (a :: r).length), j < 0 + 1 → isF ps (a :: r)[j] = true ∧ (0 < j → 0 ≤ stepF ((a :: r)[j - 1]'(by omega)) (a :: r)[j]) := fun j hj h => by
              have : j = 0 := by omega
              subst this
              exact ⟨hF, fun h => by omega⟩
            change PC _ _ [aTr ps, aInts a] _ at hIk
            repeat (first | ((with_reducible refine AWp.ofC ?_ ?_); (focus exact rfl); simp only [go_sem, hki, hRn]) | ((with_reducible refine an ?_ ?_); focus exact Au))
            repeat (first | (with_reducible refine AWp.seq ?_) | (with_reducible refine AWp.block ?_))
            refine AWp.mix mixed [0, 1, 2, 3, 4, 5, 6, 7, 8, 9, 10, 11, 12, 13, 14, 15, 16, 17, 18, 19, 20, 21, 22, 23] .done (by kernel_rfl) ?_; simp only [go_sem, hR0]
            repeat ((with_reducible refine an ?_ ?_); focus exact As)
            repeat ((with_reducible refine an ?_ ?_); focus exact As)
            refine GCall.use (ab true) (fun _ => ⟨At, (hIk).val.use ⟨rfl, rfl⟩⟩) ?_; simp only [go_sem, hR0, hgm, z0]
            repeat ((with_reducible refine an ?_ ?_); focus exact As)
            refine GCall.use (ai 0) (fun h => by simp at h) ?_
            simp only [go_sem]
            repeat (first | ((with_reducible refine AWp.ofC ?_ ?_); (focus exact rfl); simp only [go_sem]) | ((with_reducible refine an ?_ ?_); focus exact Au))
            exact ⟨_, List.Sublist.refl _, rfl, hst⟩
          · have hkm : ((k : Int) - 1).toNat = k - 1 := by omega
            have hk2 : k - 1 < (a :: r).length := by omega
            have hgm := hRg (k - 1) hk2
            have z0 : (0 : Int) < (k : Int) := by omega
            have hJm := (hJ (k - 1) hk2 (by omega)).1
            have hst : isF ps (a :: r)[k] = true → 0 ≤ stepF ((a :: r)[k - 1]'hk2) (a :: r)[k] → ∀ j (hj : j < (a :: r).length), j < k + 1 → isF ps (a :: r)[j] = true ∧ (0 < j → 0 ≤ stepF ((a :: r)[j - 1]'(by omega)) (a :: r)[j]) := fun g1 g2 j hj h => by
              by_cases e : j = k
              · subst e; exact ⟨g1, fun _ => g2⟩
              · exact hJ j hj (by omega)
            have hSt := fun (hb : isF ps (a :: r)[k] = true) => ref24_step (a :: r)[k - 1] (a :: r)[k] (isF_cb hs hJm) (cb_small (isF_cb hs hb))
            have hno2 : ¬ 0 ≤ stepF (a :: r)[k - 1] (a :: r)[k] → ch = false := fun h => hno (.inr ⟨by omega, h⟩)
            have hno1 : isF ps (a :: r)[k] = false → ch = false := fun h => hno (.inl h)
            clear hno hJ hci hxg hR hRg
            generalize hzz : stepF (a :: r)[k - 1] (a :: r)[k] = z at *
            cases hbF : isF ps (a :: r)[k] with
            | true =>
              rw [hbF] at hIk
              have hSt := hSt hbF
              repeat (first | ((with_reducible refine AWp.ofC ?_ ?_); (focus exact rfl); simp only [go_sem, hki, hRn]) | ((with_reducible refine an ?_ ?_); focus exact Au))
              repeat (first | (with_reducible refine AWp.seq ?_) | (with_reducible refine AWp.block ?_))
              refine AWp.mix mixed [0, 1, 2, 3, 4, 5, 6, 7, 8, 9, 10, 11, 12, 13, 14, 15, 16, 17, 18, 19, 20, 21, 22, 23] .done (by kernel_rfl) ?_; simp only [go_sem, hgk]
              repeat ((with_reducible refine an ?_ ?_); focus exact As)
              repeat ((with_reducible refine an ?_ ?_); focus exact As)
              refine GCall.use (ab true) (fun _ => ⟨At, (hIk).val.use ⟨rfl, rfl⟩⟩) ?_; simp only [go_sem, hgk, hkm, hgm, z0]
              repeat ((with_reducible refine an ?_ ?_); focus exact As)
              repeat ((with_reducible refine an ?_ ?_); focus exact As)
              refine GCall.use (ai z) (fun _ => ⟨At, (hSt).val.use ⟨rfl, rfl⟩⟩) ?_; simp only [go_sem]
              repeat (first | ((with_reducible refine AWp.ofC ?_ ?_); (focus exact rfl); simp only [go_sem]) | ((with_reducible refine an ?_ ?_); focus exact Au))
              refine ⟨fun h1 => ?_, fun h1 => ?_⟩
              · rw [hno2 (by omega)]
                repeat (first | ((with_reducible refine AWp.ofC ?_ ?_); (focus exact rfl); simp only [go_sem]) | ((with_reducible refine an ?_ ?_); focus exact Au))
                refine ret_eq ?_; simp only [go_sem]
              · repeat (first | ((with_reducible refine AWp.ofC ?_ ?_); (focus exact rfl); simp only [go_sem]) | ((with_reducible refine an ?_ ?_); focus exact Au))
                exact ⟨_, List.Sublist.refl _, rfl, hst hbF (by omega)⟩
            | false =>
              rw [hno1 hbF]
              rw [hbF] at hIk
              repeat (first | ((with_reducible refine AWp.ofC ?_ ?_); (focus exact rfl); simp only [go_sem, hki, hRn]) | ((with_reducible refine an ?_ ?_); focus exact Au))
              repeat (first | (with_reducible refine AWp.seq ?_) | (with_reducible refine AWp.block ?_))
              refine AWp.mix mixed [0, 1, 2, 3, 4, 5, 6, 7, 8, 9, 10, 11, 12, 13, 14, 15, 16, 17, 18, 19, 20, 21, 22, 23] .done (by kernel_rfl) ?_; simp only [go_sem, hgk]
              repeat ((with_reducible refine an ?_ ?_); focus exact As)
              repeat ((with_reducible refine an ?_ ?_); focus exact As)
              refine GCall.use (ab false) (fun _ => ⟨At, (hIk).val.use ⟨rfl, rfl⟩⟩) ?_; simp only [go_sem, hgk, hkm, hgm, z0]
              repeat ((with_reducible refine an ?_ ?_); focus exact As)
              refine GCall.use (ai 0) (fun h => by simp at h) ?_
              simp only [go_sem]
              repeat (first | ((with_reducible refine AWp.ofC ?_ ?_); (focus exact rfl); simp only [go_sem]) | ((with_reducible refine an ?_ ?_); focus exact Au))
              refine ret_eq ?_; simp only [go_sem]
        · have hki : ¬ (k : Int) < ((r.length + 1 : Nat) : Int) := by omega
          have : k = r.length + 1 := by omega
          subst this
          have hch : ch = true := hci.2 fun j hj => ⟨(hJ (j + 1) (by simpa using hj) (by omega)).1, (hJ (j + 1) (by simpa using hj) (by omega)).2 (by omega)⟩
          rw [hch]
          repeat (first | ((with_reducible refine AWp.ofC ?_ ?_); (focus exact rfl); simp only [go_sem, hki, hRn]) | ((with_reducible refine an ?_ ?_); focus exact Au))
          refine ret_eq ?_; simp only [go_sem]
      · have hor : (!decide (a = zeroC ps) || !decide (lst = fullC ps)) = true := by
          rw [← Bool.not_and, ← Bool.decide_and, decide_eq_false hc]; rfl
        have han : (decide (a = zeroC ps) && decide (lst = fullC ps)) = false := by rw [← Bool.decide_and, decide_eq_false hc]
        rw [hor, han]
        repeat (first | ((with_reducible refine AWp.ofC ?_ ?_); (focus exact rfl); simp only [go_sem]) | ((with_reducible refine an ?_ ?_); focus exact Au))
        refine ret_eq ?_; simp only [go_sem]
end Go.AL
end
section
namespace Go.AL
open Go Go.RowKit
set_option maxRecDepth 4000
theorem ref24_Events (ps : List Pr) (hs : Sm ps) (r : List (List Int)) (hl : r.length ≤ 1000000) (hr : isRunF ps r = true) : PC Go.Proofs.Tryz.prog 37 [aRows r] (aEids (evtF r)) := by
  obtain ⟨R, rfl, hch, -⟩ := isrun_inv hr
  obtain ⟨hlen, hget⟩ := chn_get (zeroC_is ps) hch
  have haR : ∀ x : List (List Int), aRows x = .sl 1 (x.map aInts) := fun _ => rfl
  have hef : aEids (evtF (zeroC ps :: R)) = .sl 2 ((evtG (zeroC ps) R).map aEid) := rfl
  rw [haR, hef]
  have hrl : R.length ≤ 1000000 := by rw [List.length_cons] at hl; omega
  generalize hA : evtG (zeroC ps) R = A at *
  obtain ⟨r, hr0⟩ : ∃ r, r = zeroC ps :: R := ⟨_, rfl⟩
  have hlc : r.length = R.length + 1 := by rw [hr0, List.length_cons]
  have hget : ∀ (i : Nat) (hi : i < A.length) (h1 : i < r.length) (h2 : i + 1 < r.length), ∃ p : Nat, p < ps.length ∧ isF ps r[i] = true ∧ rdyF ps r[i] p = true ∧ r[i + 1] = stpC r[i] p ∧ A[i] = ((p : Int), cAt r[i] p + 1) := by
    subst hr0; exact fun i hi _ h2 => hget i hi h2
  have hRn : (r.map aInts).length = R.length + 1 := by rw [List.length_map, hlc]
  have hRg : ∀ k (hk : k < r.length), (r.map aInts).getD k .any = aInts r[k] := fun k hk => getD_map hk
  rw [← hr0]
  clear hef hch hr hr0 hl
  generalize hrr : r.map aInts = X at *
  refine PC.enter 35 [.tmp 2] [32] Go.Proofs.Tryz.func37 rfl rfl rfl rfl rfl (by simp) (AWp.of ?_); simp only [go_sem]
  repeat (first | ((with_reducible refine AWp.ofC ?_ ?_); (focus exact rfl); simp only [go_sem]) | ((with_reducible refine an ?_ ?_); focus exact Au))
  refine AWp.block (AWp.loopN [3, 4] [0] (fun m vs L => ∃ (i : Nat) (v : AV), vs = [v, ai ((i : Int) + 1)] ∧ i ≤ A.length ∧ m = A.length - i ∧ AppSt 66 2 ((A.take i).map aEid) v L) A.length ⟨0, anil, rfl, by omega, rfl, .nil⟩ ?_)
  rintro m vs L - ⟨i, v, rfl, hi, rfl, hS⟩
  by_cases hil : i < A.length
  · have hii : (i : Int) + 1 < ((R.length + 1 : Nat) : Int) := by omega
    have hr1 : i < r.length := by omega
    have hr2 : i + 1 < r.length := by omega
    obtain ⟨p, hp, hF, hrd, hst, hgi⟩ := hget i hil hr1 hr2
    have g1 := hRg i hr1
    have g2 := hRg (i + 1) hr2
    have hcl := (isF_iff.1 hF).1
    have hcb := isF_cb hs hF
    have hcb2 := isF_cb hs (rdy_is hrd)
    have hstp := ref24_step r[i] r[i + 1] hcb (by rw [hst]; exact cb_small hcb2)
    rw [(stepF_iff (q := p)).2 ⟨by omega, hst⟩] at hstp
    rw [hst] at g2 hstp
    have hpl : p < (stpC r[i] p).length := by rw [stp_len]; omega
    have g3 := getD_map (f := ai) hpl
    have g4 : (stpC r[i] p)[p] = cAt r[i] p + 1 := by rw [← cAt_nat hpl, cAt_stp (by omega), if_pos rfl]
    rw [g4] at g3
    have hk1 : ((i : Int) + 1 - 1).toNat = i := by omega
    have hk2 : ((i : Int) + 1).toNat = i + 1 := by omega
    have hsu : (A.take (i + 1)).map aEid = (A.take i).map aEid ++ [.agg [ai p, ai (cAt r[i] p + 1)]] := by
      rw [List.take_succ_eq_append_getElem hil, List.map_append, hgi]; rfl
    have hsl := stp_len r[i] p
    clear hget hRg
    have hyl : ((A.take i).map aEid).length = i := by rw [List.length_map, List.length_take]; omega
    generalize cAt r[i] p = z at *
    generalize (A.take i).map aEid = ys at *
    rcases hS.inv with ⟨e1, rfl, rfl⟩ | ⟨b, cap, rfl, rfl⟩
    · simp only [go_sem]
      repeat (first | ((with_reducible refine AWp.ofC ?_ ?_); (focus exact rfl); simp only [go_sem, hii, hRn]) | ((with_reducible refine an ?_ ?_); focus exact Au))
      repeat (first | (with_reducible refine AWp.seq ?_) | (with_reducible refine AWp.block ?_))
      refine AWp.read mixed [0, 1, 2, 3, 4, 5, 6, 7, 8, 9, 10] (by kernel_rfl) ?_; simp only [go_sem, g1, g2, hk1, hk2]
      repeat ((with_reducible refine an ?_ ?_); focus exact As)
      repeat ((with_reducible refine an ?_ ?_); focus exact As)
      refine GCall.use (ai p) (fun _ => ⟨At, (hstp).val.use ⟨rfl, rfl⟩⟩) ?_; simp only [go_sem]
      repeat (first | ((with_reducible refine AWp.ofC ?_ ?_); (focus exact rfl); simp only [go_sem, g2, g3, hk2]) | ((with_reducible refine an ?_ ?_); focus exact Au))
      intro b' cap' hc'
      repeat (first | ((with_reducible refine AWp.ofC ?_ ?_); (focus exact rfl); simp only [go_sem]) | ((with_reducible refine an ?_ ?_); focus exact Au))
      exact ⟨_, List.Sublist.refl _, _, by omega, i + 1, _, by simp; rfl, by omega, rfl, by rw [hsu, e1]; exact .row b' [_] cap'⟩
    · simp only [go_sem]
      repeat (first | ((with_reducible refine AWp.ofC ?_ ?_); (focus exact rfl); simp only [go_sem, hii, hRn]) | ((with_reducible refine an ?_ ?_); focus exact Au))
      repeat (first | (with_reducible refine AWp.seq ?_) | (with_reducible refine AWp.block ?_))
      refine AWp.read mixed [0, 1, 2, 3, 4, 5, 6, 7, 8, 9, 10] (by kernel_rfl) ?_; simp only [go_sem, g1, g2, hk1, hk2]
      repeat ((with_reducible refine an ?_ ?_); focus exact As)
      repeat ((with_reducible refine an ?_ ?_); focus exact As)
      refine GCall.use (ai p) (fun _ => ⟨At, (hstp).val.use ⟨rfl, rfl⟩⟩) ?_; simp only [go_sem]
      repeat (first | ((with_reducible refine AWp.ofC ?_ ?_); (focus exact rfl); simp only [go_sem, g2, g3, hk2]) | ((with_reducible refine an ?_ ?_); focus exact Au))
      intro b' cap' hc'
      repeat (first | ((with_reducible refine AWp.ofC ?_ ?_); (focus exact rfl); simp only [go_sem]) | ((with_reducible refine an ?_ ?_); focus exact Au))
      exact ⟨_, List.Sublist.refl _, _, by omega, i + 1, _, by simp; rfl, by omega, rfl, by rw [hsu]; exact AppSt.snoc b' cap' _ rfl⟩
  · have hii : ¬ (i : Int) + 1 < ((R.length + 1 : Nat) : Int) := by omega
    have : A.take i = A := List.take_of_length_le (by omega)
    rw [this] at hS
    generalize A.map aEid = ys at *
    rcases hS.inv with ⟨e1, rfl, rfl⟩ | ⟨b, cap, rfl, rfl⟩
    · simp only [go_sem]
      repeat (first | ((with_reducible refine AWp.ofC ?_ ?_); (focus exact rfl); simp only [go_sem, hii, hRn]) | ((with_reducible refine an ?_ ?_); focus exact Au))
      refine ret_view [] ?_; simp only [go_sem]
      rw [e1]; exact .nil 2
    · simp only [go_sem]
      repeat (first | ((with_reducible refine AWp.ofC ?_ ?_); (focus exact rfl); simp only [go_sem, hii, hRn]) | ((with_reducible refine an ?_ ?_); focus exact Au))
      refine ret_view [true] ?_; simp only [go_sem]
      exact Vw.ofLs (if_pos rfl) rfl
end Go.AL
end
section
namespace Go.AL
open Go Go.RowKit
set_option maxRecDepth 4000
set_option maxHeartbeats 1000000 in
theorem ref24_Of (ps : List Pr) (hs : Sm ps) (hv : validF ps = true) (l : List Eid) (hl : l.length ≤ 1000000) : PC Go.Proofs.Tryz.prog 38 [aTr ps, aEids l] (.tup [aRows (ofL ps l), ab (ofF ps l).isSome]) := by
  have haE : aEids l = .sl 2 (l.map aEid) := rfl
  have hpl := hs.procs
  obtain ⟨hl1, hl8⟩ := valid_len hv
  have hLe := ref12_Lengths ps hs
  have hI := fun d => ref23_Is ps hs hl1 d
  have hrep : List.replicate ps.length (AV.v (.int .i64 0)) = (zeroC ps).map ai := by unfold zeroC; rw [List.map_replicate]
  have hzl : (zeroC ps).length = ps.length := by simp [zeroC]
  have hE : ∀ o, ofR ps (zeroC ps) l = o → ofL ps l = (match o with | none => [] | some R => zeroC ps :: R) ∧ ofF ps l = (match o with | none => none | some R => if (zeroC ps :: R).getLast? = some (fullC ps) then some (zeroC ps :: R) else none) := fun o h => by
    unfold ofL ofF; rw [h]; exact ⟨rfl, rfl⟩
  rw [haE]
  refine PC.enter 78 [.tmp 4, .tmp 5] [2, 13, 71] Go.Proofs.Tryz.func38 rfl rfl rfl rfl rfl (by simp) (AWp.of ?_); simp only [go_sem]
  repeat (first | ((with_reducible refine AWp.ofC ?_ ?_); (focus exact rfl); simp only [go_sem]) | ((with_reducible refine an ?_ ?_); focus exact Au))
  repeat ((with_reducible refine an ?_ ?_); focus exact As)
  intro b15
  repeat (first | ((with_reducible refine AWp.ofC ?_ ?_); (focus exact rfl); simp only [go_sem, hrep]) | ((with_reducible refine an ?_ ?_); focus exact Au))
  refine AWp.block (AWp.count 8 l.length [6, 7] [1, 2] (fun k vs L => ∃ (c : List Int) (O : List (List Int)) (v : AV), vs = [aInts c, v] ∧ isF ps c = true ∧ O.length = k + 1 ∧ O.getLast? = some c ∧ (ofR ps (zeroC ps) l).map (zeroC ps :: ·) = (ofR ps c (l.drop k)).map (O ++ ·) ∧ AppSt 42 1 (O.map aInts) v L) rfl rfl ⟨zeroC ps, [zeroC ps], _, rfl, zeroC_is ps, rfl, rfl, rfl, .row _ _ _⟩ ?_)
  rintro k vs L hk - ⟨c, O, v, rfl, hc, hOl, hOg, hst, hA⟩
  have hcl := (isF_iff.1 hc).1
  have hcb := isF_cb hs hc
  have hOm : (O.map aInts).length = k + 1 := by rw [List.length_map, hOl]
  obtain ⟨bo, cap, rfl, rfl⟩ : ∃ bo cap, v = .ls bo 1 0 (O.map aInts).length cap ∧ L = [(bo, .row 42 1 (O.map aInts) cap)] := by
    rcases hA.inv with ⟨e1, _, _⟩ | h
    · rw [e1] at hOm; simp at hOm
    · exact h
  by_cases hkl : k < l.length
  · have hki : (k : Int) < (l.length : Int) := by omega
    have hgk := getD_map (f := aEid) hkl
    have hdr : l.drop k = l[k] :: l.drop (k + 1) := by rw [List.getElem_cons_drop]
    rw [hdr, ofR_cons] at hst
    have hno : ∀ {o : Option (List (List Int))}, (ofR ps (zeroC ps) l).map (zeroC ps :: ·) = o → o = none → ofL ps l = [] ∧ ofF ps l = none := fun h1 h2 => by
      subst h2
      have h3 : ofR ps (zeroC ps) l = none := by
        cases hx : ofR ps (zeroC ps) l with
        | none => rfl
        | some R => rw [hx] at h1; cases h1
      exact hE none h3
    generalize l[k] = x at *
    obtain ⟨x1, x2⟩ := x
    change (l.map aEid).getD k .any = .agg [ai x1, ai x2] at hgk
    by_cases hin : 0 ≤ x1 ∧ x1 < ps.length
    · obtain ⟨p, rfl⟩ : ∃ p : Nat, x1 = p := ⟨x1.toNat, by omega⟩
      have ep : ((p : Int)).toNat = p := by omega
      have hp : p < ps.length := by omega
      have hpc : p < c.length := by omega
      have g1 := getD_map (f := ai) hpc
      have g2 := getD_map (f := aPr) hp
      have hb := hcb.2 _ (List.getElem_mem hpc)
      have hel := hs.evs _ (List.getElem_mem hp)
      have z0 : ¬ (p : Int) < 0 := by omega
      have z1 : ¬ (c.length : Int) ≤ (p : Int) := by omega
      have hW := ref22_With c hcb p hpc
      have hIp := hI (stpC c p)
      have hrd : rdyF ps c p = true ↔ c[p] < (ps[p].evs.length : Int) ∧ isF ps (stpC c p) = true := by
        unfold rdyF; rw [decide_eq_true_eq, cAt_nat hpc, nev_get hp]
      have hOa : (O ++ [stpC c p]).map aInts = O.map aInts ++ [.sl 1 ((stpC c p).map ai)] := by rw [List.map_append]; rfl
      simp only [ep] at hst
      rw [cAt_nat hpc] at hst
      simp only [go_sem]
      repeat (first | ((with_reducible refine AWp.ofC ?_ ?_); (focus exact rfl); simp only [go_sem, hki, hgk]) | ((with_reducible refine an ?_ ?_); focus exact Au))
      repeat (first | (with_reducible refine AWp.seq ?_) | (with_reducible refine AWp.block ?_))
      refine AWp.read mixed [0, 1, 2, 3, 4, 5, 6, 7, 8, 9, 10, 11, 12, 13, 14, 15, 16, 17, 18, 19, 20, 21, 22, 23, 24, 25, 26, 27, 28, 29, 30, 31, 32, 33, 34] (by kernel_rfl) ?_; simp only [go_sem, g1, g2, z0, z1, hgk]
      repeat ((with_reducible refine an ?_ ?_); focus exact As)
      repeat (first | ((with_reducible refine AWp.ofC ?_ ?_); (focus exact rfl); simp only [go_sem]) | ((with_reducible refine an ?_ ?_); focus exact Au))
      refine ⟨fun h1 => ?_, fun h1 h2 => ?_⟩
      · have hn : ¬ ((0 ≤ (p : Int) ∧ (p : Int) < ps.length) ∧ rdyF ps c p = true ∧ x2 = c[p] + 1) := fun h => by
          rcases h1 with h1 | h1
          · exact h1 h.2.2
          · have := (hrd.1 h.2.1).1; omega
        rw [if_neg hn] at hst
        obtain ⟨e1, e2⟩ := hno hst rfl
        rw [e1, e2]
        repeat (first | ((with_reducible refine AWp.ofC ?_ ?_); (focus exact rfl); simp only [go_sem]) | ((with_reducible refine an ?_ ?_); focus exact Au))
        refine ret_view [] ?_; simp only [go_sem]
        exact .mkTup (Vws.cons (.nil 1) (Vws.refl _))
      · repeat (first | ((with_reducible refine AWp.ofC ?_ ?_); (focus exact rfl); simp only [go_sem]) | ((with_reducible refine an ?_ ?_); focus exact Au))
        repeat ((with_reducible refine an ?_ ?_); focus exact As)
        refine (hW).val.use ?_; simp only [go_sem]
        repeat (first | ((with_reducible refine AWp.ofC ?_ ?_); (focus exact rfl); simp only [go_sem]) | ((with_reducible refine an ?_ ?_); focus exact Au))
        repeat ((with_reducible refine an ?_ ?_); focus exact As)
        refine (hIp).val.use ?_; simp only [go_sem]
        cases hd : isF ps (stpC c p) with
        | false =>
          have hn : ¬ ((0 ≤ (p : Int) ∧ (p : Int) < ps.length) ∧ rdyF ps c p = true ∧ x2 = c[p] + 1) := fun h => by
            have := (hrd.1 h.2.1).2
            rw [hd] at this; cases this
          rw [if_neg hn] at hst
          obtain ⟨e1, e2⟩ := hno hst rfl
          rw [e1, e2]
          repeat (first | ((with_reducible refine AWp.ofC ?_ ?_); (focus exact rfl); simp only [go_sem]) | ((with_reducible refine an ?_ ?_); focus exact Au))
          refine ret_view [] ?_; simp only [go_sem]
          exact .mkTup (Vws.cons (.nil 1) (Vws.refl _))
        | true =>
          rw [if_pos ⟨hin, hrd.2 ⟨by omega, hd⟩, h1⟩] at hst
          have hst : (ofR ps (zeroC ps) l).map (zeroC ps :: ·) = (ofR ps (stpC c p) (l.drop (k + 1))).map ((O ++ [stpC c p]) ++ ·) := by
            rw [hst]
            cases ofR ps (stpC c p) (l.drop (k + 1)) with
            | none => rfl
            | some S => simp
          repeat (first | ((with_reducible refine AWp.ofC ?_ ?_); (focus exact rfl); simp only [go_sem]) | ((with_reducible refine an ?_ ?_); focus exact Au))
          intro b' cap' hc'
          repeat (first | ((with_reducible refine AWp.ofC ?_ ?_); (focus exact rfl); simp only [go_sem]) | ((with_reducible refine an ?_ ?_); focus exact Au))
          refine ⟨_, List.Sublist.refl _, stpC c p, O ++ [stpC c p], _, rfl, hd, by rw [List.length_append, hOl]; rfl, by simp, hst, ?_⟩
          rw [hOa]
          exact AppSt.snoc b' cap' _ (by rw [List.length_map])
    · have hn : ¬ ((0 ≤ x1 ∧ x1 < ps.length) ∧ rdyF ps c x1.toNat = true ∧ x2 = cAt c x1 + 1) := fun h => hin h.1
      rw [if_neg hn] at hst
      obtain ⟨e1, e2⟩ := hno hst rfl
      rw [e1, e2]
      by_cases hneg : x1 < 0
      · have e0 : x1.toNat = 0 := by omega
        have g1 := getD_map (f := ai) (l := c) (k := 0) (by omega)
        have g2 := getD_map (f := aPr) (l := ps) (k := 0) (by omega)
        simp only [go_sem]
        repeat (first | ((with_reducible refine AWp.ofC ?_ ?_); (focus exact rfl); simp only [go_sem, hki, hgk]) | ((with_reducible refine an ?_ ?_); focus exact Au))
        repeat (first | (with_reducible refine AWp.seq ?_) | (with_reducible refine AWp.block ?_))
        refine AWp.read mixed [0, 1, 2, 3, 4, 5, 6, 7, 8, 9, 10, 11, 12, 13, 14, 15, 16, 17, 18, 19, 20, 21, 22, 23, 24, 25, 26, 27, 28, 29, 30, 31, 32, 33, 34] (by kernel_rfl) ?_; simp only [go_sem, g1, g2, hneg, e0, hgk]
        repeat ((with_reducible refine an ?_ ?_); focus exact As)
        repeat (first | ((with_reducible refine AWp.ofC ?_ ?_); (focus exact rfl); simp only [go_sem]) | ((with_reducible refine an ?_ ?_); focus exact Au))
        refine ret_view [] ?_; simp only [go_sem]
        exact .mkTup (Vws.cons (.nil 1) (Vws.refl _))
      · have z1 : (c.length : Int) ≤ x1 := by omega
        have g1 : (c.map ai).getD x1.toNat .any = .any := by
          rw [List.getD_eq_getElem?_getD, List.getElem?_eq_none (by rw [List.length_map]; omega)]; rfl
        have g2 : (ps.map aPr).getD x1.toNat .any = .any := by
          rw [List.getD_eq_getElem?_getD, List.getElem?_eq_none (by rw [List.length_map]; omega)]; rfl
        simp only [go_sem]
        repeat (first | ((with_reducible refine AWp.ofC ?_ ?_); (focus exact rfl); simp only [go_sem, hki, hgk]) | ((with_reducible refine an ?_ ?_); focus exact Au))
        repeat (first | (with_reducible refine AWp.seq ?_) | (with_reducible refine AWp.block ?_))
        refine AWp.read mixed [0, 1, 2, 3, 4, 5, 6, 7, 8, 9, 10, 11, 12, 13, 14, 15, 16, 17, 18, 19, 20, 21, 22, 23, 24, 25, 26, 27, 28, 29, 30, 31, 32, 33, 34] (by kernel_rfl) ?_; simp only [go_sem, g1, g2, hneg, z1, hgk, List.getD_nil]
        repeat ((with_reducible refine an ?_ ?_); focus exact As)
        repeat (first | ((with_reducible refine AWp.ofC ?_ ?_); (focus exact rfl); simp only [go_sem]) | ((with_reducible refine an ?_ ?_); focus exact Au))
        refine ret_view [] ?_; simp only [go_sem]
        exact .mkTup (Vws.cons (.nil 1) (Vws.refl _))
  · have hki : ¬ (k : Int) < (l.length : Int) := by omega
    have : k = l.length := by omega
    subst this
    have e0 : ofR ps c (l.drop l.length) = some [] := by rw [List.drop_length]; rfl
    rw [e0] at hst
    have heq := ref24_same c (fullC ps) hcb.1
    obtain ⟨R, hR, hRO⟩ : ∃ R, ofR ps (zeroC ps) l = some R ∧ zeroC ps :: R = O := by
      cases hx : ofR ps (zeroC ps) l with
      | none => rw [hx] at hst; cases hst
      | some R => rw [hx] at hst; exact ⟨R, rfl, by simpa using Option.some.inj hst⟩
    obtain ⟨e1, e2⟩ := hE _ hR
    have e1 : ofL ps l = O := by rw [e1]; exact hRO
    have e2 : (ofF ps l).isSome = decide (c = fullC ps) := by
      rw [e2]
      simp only
      rw [hRO, hOg]
      by_cases h : c = fullC ps
      · rw [if_pos (congrArg some h), decide_eq_true h]; rfl
      · rw [if_neg (fun e => h (Option.some.inj e)), decide_eq_false h]; rfl
    rw [e1, e2]
    simp only [go_sem]
    repeat (first | ((with_reducible refine AWp.ofC ?_ ?_); (focus exact rfl); simp only [go_sem, hki]) | ((with_reducible refine an ?_ ?_); focus exact Au))
    repeat ((with_reducible refine an ?_ ?_); focus exact As)
    refine (hLe).val.use ?_; simp only [go_sem]
    repeat ((with_reducible refine an ?_ ?_); focus exact As)
    refine (heq).val.use ?_; simp only [go_sem]
    repeat (first | ((with_reducible refine AWp.ofC ?_ ?_); (focus exact rfl); simp only [go_sem]) | ((with_reducible refine an ?_ ?_); focus exact Au))
    refine ret_view [true] ?_; simp only [go_sem]
    exact .mkTup (Vws.cons (Vw.ofLs (if_pos rfl) (by rw [List.length_map])) (Vws.refl _))
end Go.AL
end
section
namespace Go.AL
open Go Go.RowKit
set_option maxRecDepth 4000
section
variable {ps : List Pr} (hva : PC Go.Proofs.Tryz.prog 45 [aTr ps] (ab false))
include hva
theorem run_Count_bad : PC Go.Proofs.Tryz.prog 11 [aTr ps] (.tup [ai 0, ai 1]) := by
  refine PC.enter 80 [.tmp 2, .tmp 3] [1] Go.Proofs.Tryz.func11 rfl rfl rfl rfl rfl (by simp) (AWp.of ?_); simp only [go_sem]
  repeat (first | ((with_reducible refine AWp.ofC ?_ ?_); (focus exact rfl); simp only [go_sem]) | ((with_reducible refine an ?_ ?_); focus exact Au))
  repeat ((with_reducible refine an ?_ ?_); focus exact As)
  refine (hva).val.use ?_; simp only [go_sem]
  repeat (first | ((with_reducible refine AWp.ofC ?_ ?_); (focus exact rfl); simp only [go_sem]) | ((with_reducible refine an ?_ ?_); focus exact Au))
  refine ret_eq ?_; simp only [go_sem]
theorem run_Is_bad (r : List (List Int)) : PC Go.Proofs.Tryz.prog 32 [aTr ps, aRows r] (ab false) := by
  refine PC.enter 18 [.tmp 4] [2] Go.Proofs.Tryz.func32 rfl rfl rfl rfl rfl (by simp) (AWp.of ?_); simp only [go_sem]
  repeat (first | ((with_reducible refine AWp.ofC ?_ ?_); (focus exact rfl); simp only [go_sem]) | ((with_reducible refine an ?_ ?_); focus exact Au))
  repeat ((with_reducible refine an ?_ ?_); focus exact As)
  refine (hva).val.use ?_; simp only [go_sem]
  repeat (first | ((with_reducible refine AWp.ofC ?_ ?_); (focus exact rfl); simp only [go_sem]) | ((with_reducible refine an ?_ ?_); focus exact Au))
  refine ret_eq ?_; simp only [go_sem]
theorem run_Events_bad (r : List (List Int)) : PC Go.Proofs.Tryz.prog 33 [aTr ps, aRows r] (.tup [aEids [], ai 1]) := by
  refine PC.enter 45 [.tmp 4, .tmp 5] [2, 41] Go.Proofs.Tryz.func33 rfl rfl rfl rfl rfl (by simp) (AWp.of ?_); simp only [go_sem]
  repeat (first | ((with_reducible refine AWp.ofC ?_ ?_); (focus exact rfl); simp only [go_sem]) | ((with_reducible refine an ?_ ?_); focus exact Au))
  repeat ((with_reducible refine an ?_ ?_); focus exact As)
  refine (hva).val.use ?_; simp only [go_sem]
  repeat (first | ((with_reducible refine AWp.ofC ?_ ?_); (focus exact rfl); simp only [go_sem]) | ((with_reducible refine an ?_ ?_); focus exact Au))
  refine ret_view [] ?_; simp only [go_sem]
  exact .mkTup (Vws.cons (.nil 2) (Vws.refl _))
theorem run_Of_bad (l : List Eid) : PC Go.Proofs.Tryz.prog 34 [aTr ps, aEids l] (.tup [aRows [], ai 1]) := by
  refine PC.enter 58 [.tmp 4, .tmp 5] [2, 10, 49] Go.Proofs.Tryz.func34 rfl rfl rfl rfl rfl (by simp) (AWp.of ?_); simp only [go_sem]
  repeat (first | ((with_reducible refine AWp.ofC ?_ ?_); (focus exact rfl); simp only [go_sem]) | ((with_reducible refine an ?_ ?_); focus exact Au))
  repeat ((with_reducible refine an ?_ ?_); focus exact As)
  refine (hva).val.use ?_; simp only [go_sem]
  repeat (first | ((with_reducible refine AWp.ofC ?_ ?_); (focus exact rfl); simp only [go_sem]) | ((with_reducible refine an ?_ ?_); focus exact Au))
  refine ret_view [] ?_; simp only [go_sem]
  exact .mkTup (Vws.cons (.nil 1) (Vws.refl _))
end
end Go.AL
end
section
namespace Go.AL
open Go Go.RowKit
set_option maxRecDepth 100000
section
variable {H : Type} {enc : TypeId × Value → H} {W : World}
theorem rdRows : Rd enc Go.Proofs.Tryz.prog W 31 1 aRows (fun l => l.length ≤ maxLen) :=
  (Rd.slice Go.Proofs.Tryz.underlying31 (by kernel_rfl : Program.cellsOf Go.Proofs.Tryz.prog 42 = 1) (by decide) rdInts).map id (fun _ => rfl) (fun _ h => h.1)
end
end Go.AL
end
