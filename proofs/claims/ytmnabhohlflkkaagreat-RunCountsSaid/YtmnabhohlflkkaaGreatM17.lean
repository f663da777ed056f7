/- Texts of this claim's proof: WU9, WRt4, WRt6, WNf, WNd2, WNh, WU10. No condition. -/
import Derived.Test.YtmnabhohlflkkaaGreatM13
import Derived.Test.YtmnabhohlflkkaaGreatM10
import Derived.Test.YtmnabhohlflkkaaGreatM9
import Derived.Test.YtmnabhohlflkkaaGreatM14
import Derived.Test.YtmnabhohlflkkaaGreatM15
import Derived.Test.YtmnabhohlflkkaaGreatM16
section
/- The law RunChecks: the walk. No condition. -/
namespace Go.AL
open Go Go.RowKit
set_option maxRecDepth 4000
theorem eids_equal (a b : List Eid) (ha : a.length ≤ 1000000) : PC Go.Proofs.Tryz.prog 36 [aEids a, aEids b] (ab (decide (a = b))) := by
  have haE : ∀ l : List Eid, aEids l = .sl 2 (l.map aEid) := fun _ => rfl
  rw [haE, haE]
  refine PC.enter 26 [.tmp 4] [] Go.Proofs.Tryz.func36 rfl rfl rfl rfl rfl (by simp) (AWp.of ?_); simp only [go_sem]
  repeat (first | ((with_reducible refine AWp.ofC ?_ ?_); (focus exact rfl); simp only [go_sem]) | ((with_reducible refine an ?_ ?_); focus exact Au))
  refine ⟨fun h1 => ?_, fun h1 => ?_⟩
  · repeat (first | ((with_reducible refine AWp.ofC ?_ ?_); (focus exact rfl); simp only [go_sem]) | ((with_reducible refine an ?_ ?_); focus exact Au))
    refine ret_eq ?_; simp only [go_sem]
    congr 2; symm; apply decide_eq_false; rintro rfl; exact h1 rfl
  · have hab : a.length = b.length := by omega
    repeat ((with_reducible refine an ?_ ?_); focus exact As)
    refine AWp.of ?_; simp only [go_sem]
    refine AWp.range' a.length [] [0, 1, 12] (fun k vs L => L = [] ∧ ∀ (i : Nat) (hi : i < a.length), i < k → a[i] = b[i]) (by omega) rfl rfl rfl ⟨rfl, by omega⟩ ?_ ?_
    · rintro k vs L' hk - ⟨rfl, hI⟩
      have hkb : k < b.length := by omega
      have ga := getD_map (f := aEid) hk
      have gb := getD_map (f := aEid) hkb
      obtain ⟨x1, x2, hx⟩ : ∃ x1 x2, a[k] = (x1, x2) := ⟨_, _, rfl⟩
      obtain ⟨y1, y2, hy⟩ : ∃ y1 y2, b[k] = (y1, y2) := ⟨_, _, rfl⟩
      rw [hx] at ga
      rw [hy] at gb
      change _ = AV.agg [ai x1, ai x2] at ga
      change _ = AV.agg [ai y1, ai y2] at gb
      have hxy : a[k] = b[k] ↔ x1 = y1 ∧ x2 = y2 := by rw [hx, hy]; exact ⟨fun h => by cases h; exact ⟨rfl, rfl⟩, fun h => by rw [h.1, h.2]⟩
      simp only [go_sem]
      repeat (first | ((with_reducible refine AWp.ofC ?_ ?_); (focus exact rfl); simp only [go_sem]) | ((with_reducible refine an ?_ ?_); focus exact Au))
      repeat (first | (with_reducible refine AWp.seq ?_) | (with_reducible refine AWp.block ?_))
      refine AWp.read mixed [0, 1, 2, 3, 4, 5, 6, 7, 8] (by kernel_rfl) ?_; simp only [go_sem, ga, gb]
      repeat ((with_reducible refine an ?_ ?_); focus exact As)
      by_cases he : x1 = y1 ∧ x2 = y2
      · have hst : ∀ (i : Nat) (hi : i < a.length), i < k + 1 → a[i] = b[i] := fun i hi hik => by
          by_cases e : i = k
          · subst e; exact hxy.2 he
          · exact hI i hi (by omega)
        obtain ⟨rfl, rfl⟩ := he
        repeat (first | ((with_reducible refine AWp.ofC ?_ ?_); (focus exact rfl); simp only [go_sem]) | ((with_reducible refine an ?_ ?_); focus exact Au))
        exact ⟨_, List.Sublist.refl _, rfl, hst⟩
      · have hne : ¬ a = b := fun e => he (hxy.1 (by subst e; rfl))
        rw [decide_eq_false hne]
        have hd : (decide (x1 = y1) && decide (x2 = y2)) = false := by rw [← Bool.decide_and]; exact decide_eq_false he
        rw [hd]
        repeat (first | ((with_reducible refine AWp.ofC ?_ ?_); (focus exact rfl); simp only [go_sem]) | ((with_reducible refine an ?_ ?_); focus exact Au))
        refine ret_eq ?_; simp only [go_sem]
    · rintro vs L' - ⟨rfl, hI⟩
      simp only [go_sem]
      repeat (first | ((with_reducible refine AWp.ofC ?_ ?_); (focus exact rfl); simp only [go_sem]) | ((with_reducible refine an ?_ ?_); focus exact Au))
      refine ret_eq ?_; simp only [go_sem]
      congr 2; symm; apply decide_eq_true
      exact List.ext_getElem hab (fun i h1 h2 => hI i h1 h1)
theorem ref24_Is_bad {ps : List Pr} (hva : PC Go.Proofs.Tryz.prog 12 [aTr ps] (ab false)) (r : List (List Int)) : PC Go.Proofs.Tryz.prog 35 [aTr ps, aRows r] (ab false) := by
  have haR : ∀ x : List (List Int), aRows x = .sl 1 (x.map aInts) := fun _ => rfl
  cases r with
  | nil =>
    rw [haR]
    have z0 : (((0 : Nat) : Int) = 0) = True := eq_true rfl
    refine PC.enter 67 [.tmp 4] [2, 21] Go.Proofs.Tryz.func35 rfl rfl rfl rfl rfl (by simp) (AWp.of ?_); simp only [go_sem]
    repeat (first | ((with_reducible refine AWp.ofC ?_ ?_); (focus exact rfl); simp only [go_sem]) | ((with_reducible refine an ?_ ?_); focus exact Au))
    repeat (first | (with_reducible refine AWp.seq ?_) | (with_reducible refine AWp.block ?_))
    refine AWp.mix mixed [0, 1, 2, 3, 4, 5, 6, 7, 8, 9, 10, 11, 12, 13, 14, 15, 16, 17, 18, 19, 20, 21, 22, 23, 24, 25, 26, 27, 28, 29, 30] .done (by kernel_rfl) ?_; simp only [go_sem]
    repeat ((with_reducible refine an ?_ ?_); focus exact As)
    refine GCall.use (ab false) (fun _ => ⟨At, (hva).val.use ⟨rfl, rfl⟩⟩) ?_; simp only [go_sem, List.getD_nil, z0]
    refine GCall.use (ab false) (fun h => by simp at h) ?_
    simp only [go_sem, List.getD_nil]
    refine GCall.use (aInts []) (fun h => by simp at h) ?_
    simp only [go_sem]
    refine GCall.use (ab false) (fun h => by simp at h) ?_
    simp only [go_sem]
    repeat (first | ((with_reducible refine AWp.ofC ?_ ?_); (focus exact rfl); simp only [go_sem]) | ((with_reducible refine an ?_ ?_); focus exact Au))
    refine ret_eq ?_; simp only [go_sem]
  | cons a r =>
    obtain ⟨lst, hlst⟩ : ∃ lst, (a :: r)[r.length]'(by simp) = lst := ⟨_, rfl⟩
    have hR0 : ((a :: r).map aInts).getD 0 .any = aInts a := rfl
    have hRl : ((a :: r).map aInts).getD r.length .any = aInts lst := by
      rw [List.getD_eq_getElem?_getD, List.getElem?_map, List.getElem?_eq_getElem (by simp), hlst]; rfl
    have hRn : ((a :: r).map aInts).length = r.length + 1 := by rw [List.length_map, List.length_cons]
    have hix : (((r.length + 1 : Nat) : Int) - 1).toNat = r.length := by omega
    have hn0 : ¬ (((r.length + 1 : Nat) : Int) = 0) := by omega
    rw [haR]
    generalize hR : (a :: r).map aInts = R at *
    refine PC.enter 67 [.tmp 4] [2, 21] Go.Proofs.Tryz.func35 rfl rfl rfl rfl rfl (by simp) (AWp.of ?_); simp only [go_sem]
    repeat (first | ((with_reducible refine AWp.ofC ?_ ?_); (focus exact rfl); simp only [go_sem]) | ((with_reducible refine an ?_ ?_); focus exact Au))
    repeat (first | (with_reducible refine AWp.seq ?_) | (with_reducible refine AWp.block ?_))
    refine AWp.mix mixed [0, 1, 2, 3, 4, 5, 6, 7, 8, 9, 10, 11, 12, 13, 14, 15, 16, 17, 18, 19, 20, 21, 22, 23, 24, 25, 26, 27, 28, 29, 30] .done (by kernel_rfl) ?_; simp only [go_sem]
    repeat ((with_reducible refine an ?_ ?_); focus exact As)
    refine GCall.use (ab false) (fun _ => ⟨At, (hva).val.use ⟨rfl, rfl⟩⟩) ?_; simp only [go_sem, hR0, hRn, hn0]
    refine GCall.use (ab false) (fun h => by simp at h) ?_
    simp only [go_sem, hRl, hRn, hix]
    refine GCall.use (aInts []) (fun h => by simp at h) ?_
    simp only [go_sem]
    refine GCall.use (ab false) (fun h => by simp at h) ?_
    simp only [go_sem]
    repeat (first | ((with_reducible refine AWp.ofC ?_ ?_); (focus exact rfl); simp only [go_sem]) | ((with_reducible refine an ?_ ?_); focus exact Au))
    refine ret_eq ?_; simp only [go_sem]
theorem evtG_len : ∀ (R : List (List Int)) (c : List Int), (evtG c R).length = R.length
  | [], _ => rfl
  | b :: R, c => by
    show (evtG b R).length + 1 = _
    rw [evtG_len R b]; rfl
theorem evtF_len (r : List (List Int)) : (evtF r).length ≤ r.length := by
  cases r with
  | nil => exact Nat.le_refl _
  | cons a r => show (evtG a r).length ≤ _; rw [evtG_len, List.length_cons]; omega
theorem ofR_len {ps : List Pr} : ∀ {l : List Eid} {c : List Int} {R : List (List Int)}, isF ps c = true → ofR ps c l = some R → R.length = l.length ∧ ∀ x ∈ R, x.length = ps.length
  | [], c, R, hc, h => by
    have : R = [] := (Option.some.inj h).symm
    subst this; exact ⟨rfl, fun x hx => by cases hx⟩
  | x :: l, c, R, hc, h => by
    rw [ofR_cons] at h
    split at h
    · rename_i hx
      have hF := rdy_is hx.2.1
      cases hr : ofR ps (stpC c x.1.toNat) l with
      | none => rw [hr] at h; cases h
      | some S =>
        rw [hr] at h
        have : R = stpC c x.1.toNat :: S := (Option.some.inj h).symm
        subst this
        obtain ⟨h1, h2⟩ := ofR_len hF hr
        refine ⟨by rw [List.length_cons, List.length_cons, h1], fun y hy => ?_⟩
        rcases List.mem_cons.1 hy with rfl | hy
        · exact (isF_iff.1 hF).1
        · exact h2 y hy
    · cases h
set_option maxHeartbeats 4000000 in
theorem law24_RunChecks (ps : List Pr) (r : List (List Int)) (l : List Eid) (hev : ∀ p ∈ ps, p.evs.length ≤ 9223372036854775807) : PC Go.Proofs.Tryz.prog 7 [aTr ps, aRows r, aEids l] (ab true) := by
  have haw := law24_awake
  have hsm := law24_small ps hev 60
  have hsh := law24_short r
  have haR : ∀ x : List (List Int), aRows x = .sl 1 (x.map aInts) := fun _ => rfl
  have haE : ∀ x : List Eid, aEids x = .sl 2 (x.map aEid) := fun _ => rfl
  cases hsf : smF ps 60 with
  | false =>
    rw [hsf] at hsm
    rw [haR] at *
    rw [haE]
    by_cases h100 : (100 : Int) < (l.length : Int) <;>
    · refine PC.enter 108 [.tmp 6] [3] Go.Proofs.Tryz.func7 rfl rfl rfl rfl rfl (by simp) (AWp.of ?_); simp only [go_sem]
      repeat (first | ((with_reducible refine AWp.ofC ?_ ?_); (focus exact rfl); simp only [go_sem]) | ((with_reducible refine an ?_ ?_); focus exact Au))
      repeat ((with_reducible refine an ?_ ?_); focus exact As)
      refine (haw).val.use ?_; simp only [go_sem]
      repeat (first | ((with_reducible refine AWp.ofC ?_ ?_); (focus exact rfl); simp only [go_sem]) | ((with_reducible refine an ?_ ?_); focus exact Au))
      repeat ((with_reducible refine an ?_ ?_); focus exact As)
      refine (hsm).val.use ?_; simp only [go_sem]
      repeat ((with_reducible refine an ?_ ?_); focus exact As)
      refine GCall.use (ab (shortF r)) (fun _ => ⟨At, (hsh).val.use ⟨rfl, rfl⟩⟩) ?_; simp only [go_sem, h100]
      repeat (first | ((with_reducible refine AWp.ofC ?_ ?_); (focus exact rfl); simp only [go_sem]) | ((with_reducible refine an ?_ ?_); focus exact Au))
      refine ret_eq ?_; simp only [go_sem]
  | true =>
    rw [hsf] at hsm
    have hvd := vd_of hsf
    cases hsr : shortF r with
    | false =>
      rw [hsr] at hsh
      rw [haR] at *
      rw [haE]
      by_cases h100 : (100 : Int) < (l.length : Int) <;>
      · refine PC.enter 108 [.tmp 6] [3] Go.Proofs.Tryz.func7 rfl rfl rfl rfl rfl (by simp) (AWp.of ?_); simp only [go_sem]
        repeat (first | ((with_reducible refine AWp.ofC ?_ ?_); (focus exact rfl); simp only [go_sem]) | ((with_reducible refine an ?_ ?_); focus exact Au))
        repeat ((with_reducible refine an ?_ ?_); focus exact As)
        refine (haw).val.use ?_; simp only [go_sem]
        repeat (first | ((with_reducible refine AWp.ofC ?_ ?_); (focus exact rfl); simp only [go_sem]) | ((with_reducible refine an ?_ ?_); focus exact Au))
        repeat ((with_reducible refine an ?_ ?_); focus exact As)
        refine (hsm).val.use ?_; simp only [go_sem]
        repeat ((with_reducible refine an ?_ ?_); focus exact As)
        refine GCall.use (ab false) (fun _ => ⟨At, (hsh).val.use ⟨rfl, rfl⟩⟩) ?_; simp only [go_sem, h100]
        repeat (first | ((with_reducible refine AWp.ofC ?_ ?_); (focus exact rfl); simp only [go_sem]) | ((with_reducible refine an ?_ ?_); focus exact Au))
        refine ret_eq ?_; simp only [go_sem]
    | true =>
      rw [hsr] at hsh
      obtain ⟨hr1, hr2⟩ := shortF_spec hsr
      have hr2' : ∀ x ∈ r, x.length ≤ 1000000 := fun x hx => by have := hr2 x hx; omega
      by_cases hll : 100 < l.length
      · have h100 : (100 : Int) < (l.length : Int) := by omega
        rw [haR] at *
        rw [haE]
        refine PC.enter 108 [.tmp 6] [3] Go.Proofs.Tryz.func7 rfl rfl rfl rfl rfl (by simp) (AWp.of ?_); simp only [go_sem]
        repeat (first | ((with_reducible refine AWp.ofC ?_ ?_); (focus exact rfl); simp only [go_sem]) | ((with_reducible refine an ?_ ?_); focus exact Au))
        repeat ((with_reducible refine an ?_ ?_); focus exact As)
        refine (haw).val.use ?_; simp only [go_sem]
        repeat (first | ((with_reducible refine AWp.ofC ?_ ?_); (focus exact rfl); simp only [go_sem]) | ((with_reducible refine an ?_ ?_); focus exact Au))
        repeat ((with_reducible refine an ?_ ?_); focus exact As)
        refine (hsm).val.use ?_; simp only [go_sem]
        repeat ((with_reducible refine an ?_ ?_); focus exact As)
        refine GCall.use (ab true) (fun _ => ⟨At, (hsh).val.use ⟨rfl, rfl⟩⟩) ?_; simp only [go_sem, h100]
        repeat (first | ((with_reducible refine AWp.ofC ?_ ?_); (focus exact rfl); simp only [go_sem]) | ((with_reducible refine an ?_ ?_); focus exact Au))
        refine ret_eq ?_; simp only [go_sem]
      · have h100 : ¬ (100 : Int) < (l.length : Int) := by omega
        have z0 : ((0 : Nat) : Int) = 0 := rfl
        cases hv : validF ps with
        | false =>
          have hva := hvd.val
          have hrv := hvd.rval
          rw [hv] at hva hrv
          have h1 := run_Events_bad hva r
          have h2 := run_Of_bad hva l
          have h3 := ref24_Is_bad hrv r
          have h4 := run_Is_bad hva r
          rw [haE] at h1 h2
          rw [haR] at hsh h1 h2 h3 h4 ⊢
          rw [haE]
          refine PC.enter 108 [.tmp 6] [3] Go.Proofs.Tryz.func7 rfl rfl rfl rfl rfl (by simp) (AWp.of ?_); simp only [go_sem]
          repeat (first | ((with_reducible refine AWp.ofC ?_ ?_); (focus exact rfl); simp only [go_sem]) | ((with_reducible refine an ?_ ?_); focus exact Au))
          repeat ((with_reducible refine an ?_ ?_); focus exact As)
          refine (haw).val.use ?_; simp only [go_sem]
          repeat (first | ((with_reducible refine AWp.ofC ?_ ?_); (focus exact rfl); simp only [go_sem]) | ((with_reducible refine an ?_ ?_); focus exact Au))
          repeat ((with_reducible refine an ?_ ?_); focus exact As)
          refine (hsm).val.use ?_; simp only [go_sem]
          repeat ((with_reducible refine an ?_ ?_); focus exact As)
          refine GCall.use (ab true) (fun _ => ⟨At, (hsh).val.use ⟨rfl, rfl⟩⟩) ?_; simp only [go_sem, h100]
          repeat (first | ((with_reducible refine AWp.ofC ?_ ?_); (focus exact rfl); simp only [go_sem]) | ((with_reducible refine an ?_ ?_); focus exact Au))
          repeat ((with_reducible refine an ?_ ?_); focus exact As)
          refine (h1).val.use ?_; simp only [go_sem]
          repeat (first | ((with_reducible refine AWp.ofC ?_ ?_); (focus exact rfl); simp only [go_sem]) | ((with_reducible refine an ?_ ?_); focus exact Au))
          repeat ((with_reducible refine an ?_ ?_); focus exact As)
          refine (h2).val.use ?_; simp only [go_sem]
          repeat (first | ((with_reducible refine AWp.ofC ?_ ?_); (focus exact rfl); simp only [go_sem]) | ((with_reducible refine an ?_ ?_); focus exact Au))
          repeat ((with_reducible refine an ?_ ?_); focus exact As)
          refine (h3).val.use ?_; simp only [go_sem]
          repeat (first | ((with_reducible refine AWp.ofC ?_ ?_); (focus exact rfl); simp only [go_sem]) | ((with_reducible refine an ?_ ?_); focus exact Au))
          repeat ((with_reducible refine an ?_ ?_); focus exact As)
          refine (h4).val.use ?_; simp only [go_sem]
          repeat (first | ((with_reducible refine AWp.ofC ?_ ?_); (focus exact rfl); simp only [go_sem]) | ((with_reducible refine an ?_ ?_); focus exact Au))
          repeat ((with_reducible refine an ?_ ?_); focus exact As)
          refine (hrv).val.use ?_; simp only [go_sem]
          repeat (first | ((with_reducible refine AWp.ofC ?_ ?_); (focus exact rfl); simp only [go_sem, z0]) | ((with_reducible refine an ?_ ?_); focus exact Au))
          refine ret_eq ?_; simp only [go_sem]
        | true =>
          have hs := hvd.sm hv
          have hrv := hvd.rval
          rw [hv] at hrv
          have h1 := run_Events ps hs r (by omega) hr2'
          have h2 := run_Of ps hs l (by omega)
          have h3 := ref24_Is ps hs r (by omega) hr2'
          have h4 := run_Is ps hs r (by omega) hr2'
          have h5 := ref24_Of ps hs hv l (by omega)
          have eI : isR ps r = isRunF ps r := by unfold isR; rw [hv]; rfl
          rw [eI] at h3 h4
          have eE : evnE ps r = if isRunF ps r = true then 0 else 3 := by unfold evnE; rw [hv, if_pos rfl]
          have eF : evnF ps r = if evnE ps r = 0 then evtF r else [] := rfl
          have oE : ofVE ps l = if (ofF ps l).isSome = true then 0 else 11 := by unfold ofVE; rw [hv, if_pos rfl]
          have oF : ofVF ps l = if ofVE ps l = 0 then (ofF ps l).getD [] else [] := rfl
          have h6 := fun h => ref24_Events ps hs r (by omega) h
          have hel := evtF_len r
          have h7 := eids_equal (evtF r) (evtF r) (by omega)
          rw [decide_eq_true rfl] at h7
          have hok : (ofF ps l).isSome = true → ofL ps l = (ofF ps l).getD [] ∧ (ofL ps l).length ≤ 1000000 ∧ ∀ x ∈ ofL ps l, x.length ≤ 1000000 := fun h => by
            unfold ofF ofL at *
            cases hr : ofR ps (zeroC ps) l with
            | none => rw [hr] at h; cases h
            | some R =>
              rw [hr] at h
              simp only at h ⊢
              obtain ⟨g1, g2⟩ := ofR_len (zeroC_is ps) hr
              have h8 := (valid_len hv).2
              split at h
              · rename_i hl
                rw [if_pos hl]
                refine ⟨rfl, by rw [List.length_cons]; omega, fun x hx => ?_⟩
                rcases List.mem_cons.1 hx with rfl | hx
                · simp [zeroC]; omega
                · rw [g2 x hx]; omega
              · cases h
          have h8 := fun h => ref24_Same (ofL ps l) (ofL ps l) (hok h).2.1 (hok h).2.2
          have hokv := fun h => (hok h).1
          clear hok
          generalize (ofF ps l).getD [] = want at *
          generalize ofVF ps l = y at *
          generalize ofVE ps l = f at *
          generalize (ofF ps l).isSome = ok at *
          generalize ofL ps l = w0 at *
          generalize evnF ps r = x at *
          generalize evnE ps r = e at *
          generalize evtF r = ev at *
          generalize isRunF ps r = is at *
          cases is with
          | false =>
            rw [if_neg (by decide)] at eE
            subst eE
            rw [if_neg (by decide)] at eF
            subst eF
            cases ok with
            | false =>
              rw [if_neg (by decide)] at oE
              subst oE
              rw [if_neg (by decide)] at oF
              subst oF
              simp only [haE, haR] at *
              refine PC.enter 108 [.tmp 6] [3] Go.Proofs.Tryz.func7 rfl rfl rfl rfl rfl (by simp) (AWp.of ?_); simp only [go_sem]
              repeat (first | ((with_reducible refine AWp.ofC ?_ ?_); (focus exact rfl); simp only [go_sem]) | ((with_reducible refine an ?_ ?_); focus exact Au))
              repeat ((with_reducible refine an ?_ ?_); focus exact As)
              refine (haw).val.use ?_; simp only [go_sem]
              repeat (first | ((with_reducible refine AWp.ofC ?_ ?_); (focus exact rfl); simp only [go_sem]) | ((with_reducible refine an ?_ ?_); focus exact Au))
              repeat ((with_reducible refine an ?_ ?_); focus exact As)
              refine (hsm).val.use ?_; simp only [go_sem]
              repeat ((with_reducible refine an ?_ ?_); focus exact As)
              refine GCall.use (ab true) (fun _ => ⟨At, (hsh).val.use ⟨rfl, rfl⟩⟩) ?_; simp only [go_sem, h100]
              repeat (first | ((with_reducible refine AWp.ofC ?_ ?_); (focus exact rfl); simp only [go_sem]) | ((with_reducible refine an ?_ ?_); focus exact Au))
              repeat ((with_reducible refine an ?_ ?_); focus exact As)
              refine (h1).val.use ?_; simp only [go_sem]
              repeat (first | ((with_reducible refine AWp.ofC ?_ ?_); (focus exact rfl); simp only [go_sem]) | ((with_reducible refine an ?_ ?_); focus exact Au))
              repeat ((with_reducible refine an ?_ ?_); focus exact As)
              refine (h2).val.use ?_; simp only [go_sem]
              repeat (first | ((with_reducible refine AWp.ofC ?_ ?_); (focus exact rfl); simp only [go_sem]) | ((with_reducible refine an ?_ ?_); focus exact Au))
              repeat ((with_reducible refine an ?_ ?_); focus exact As)
              refine (h3).val.use ?_; simp only [go_sem]
              repeat (first | ((with_reducible refine AWp.ofC ?_ ?_); (focus exact rfl); simp only [go_sem]) | ((with_reducible refine an ?_ ?_); focus exact Au))
              repeat ((with_reducible refine an ?_ ?_); focus exact As)
              refine (h4).val.use ?_; simp only [go_sem]
              repeat (first | ((with_reducible refine AWp.ofC ?_ ?_); (focus exact rfl); simp only [go_sem]) | ((with_reducible refine an ?_ ?_); focus exact Au))
              repeat ((with_reducible refine an ?_ ?_); focus exact As)
              refine (hrv).val.use ?_; simp only [go_sem]
              repeat (first | ((with_reducible refine AWp.ofC ?_ ?_); (focus exact rfl); simp only [go_sem, z0, Int.reduceEq]) | ((with_reducible refine an ?_ ?_); focus exact Au))
              repeat ((with_reducible refine an ?_ ?_); focus exact As)
              refine (h5).val.use ?_; simp only [go_sem]
              repeat (first | ((with_reducible refine AWp.ofC ?_ ?_); (focus exact rfl); simp only [go_sem, z0]) | ((with_reducible refine an ?_ ?_); focus exact Au))
              refine ret_eq ?_; simp only [go_sem]
            | true =>
              rw [if_pos rfl] at oE
              subst oE
              rw [if_pos rfl] at oF
              subst oF
              have hww := hokv rfl
              subst hww
              have h8 := h8 rfl
              rw [decide_eq_true rfl] at h8
              simp only [haE, haR] at *
              refine PC.enter 108 [.tmp 6] [3] Go.Proofs.Tryz.func7 rfl rfl rfl rfl rfl (by simp) (AWp.of ?_); simp only [go_sem]
              repeat (first | ((with_reducible refine AWp.ofC ?_ ?_); (focus exact rfl); simp only [go_sem]) | ((with_reducible refine an ?_ ?_); focus exact Au))
              repeat ((with_reducible refine an ?_ ?_); focus exact As)
              refine (haw).val.use ?_; simp only [go_sem]
              repeat (first | ((with_reducible refine AWp.ofC ?_ ?_); (focus exact rfl); simp only [go_sem]) | ((with_reducible refine an ?_ ?_); focus exact Au))
              repeat ((with_reducible refine an ?_ ?_); focus exact As)
              refine (hsm).val.use ?_; simp only [go_sem]
              repeat ((with_reducible refine an ?_ ?_); focus exact As)
              refine GCall.use (ab true) (fun _ => ⟨At, (hsh).val.use ⟨rfl, rfl⟩⟩) ?_; simp only [go_sem, h100]
              repeat (first | ((with_reducible refine AWp.ofC ?_ ?_); (focus exact rfl); simp only [go_sem]) | ((with_reducible refine an ?_ ?_); focus exact Au))
              repeat ((with_reducible refine an ?_ ?_); focus exact As)
              refine (h1).val.use ?_; simp only [go_sem]
              repeat (first | ((with_reducible refine AWp.ofC ?_ ?_); (focus exact rfl); simp only [go_sem]) | ((with_reducible refine an ?_ ?_); focus exact Au))
              repeat ((with_reducible refine an ?_ ?_); focus exact As)
              refine (h2).val.use ?_; simp only [go_sem]
              repeat (first | ((with_reducible refine AWp.ofC ?_ ?_); (focus exact rfl); simp only [go_sem]) | ((with_reducible refine an ?_ ?_); focus exact Au))
              repeat ((with_reducible refine an ?_ ?_); focus exact As)
              refine (h3).val.use ?_; simp only [go_sem]
              repeat (first | ((with_reducible refine AWp.ofC ?_ ?_); (focus exact rfl); simp only [go_sem]) | ((with_reducible refine an ?_ ?_); focus exact Au))
              repeat ((with_reducible refine an ?_ ?_); focus exact As)
              refine (h4).val.use ?_; simp only [go_sem]
              repeat (first | ((with_reducible refine AWp.ofC ?_ ?_); (focus exact rfl); simp only [go_sem]) | ((with_reducible refine an ?_ ?_); focus exact Au))
              repeat ((with_reducible refine an ?_ ?_); focus exact As)
              refine (hrv).val.use ?_; simp only [go_sem]
              repeat (first | ((with_reducible refine AWp.ofC ?_ ?_); (focus exact rfl); simp only [go_sem, z0, Int.reduceEq]) | ((with_reducible refine an ?_ ?_); focus exact Au))
              repeat ((with_reducible refine an ?_ ?_); focus exact As)
              refine (h5).val.use ?_; simp only [go_sem]
              repeat (first | ((with_reducible refine AWp.ofC ?_ ?_); (focus exact rfl); simp only [go_sem, Int.reduceEq]) | ((with_reducible refine an ?_ ?_); focus exact Au))
              repeat ((with_reducible refine an ?_ ?_); focus exact As)
              refine GCall.use (ab true) (fun _ => ⟨At, (h8).val.use ⟨rfl, rfl⟩⟩) ?_; simp only [go_sem]
              repeat (first | ((with_reducible refine AWp.ofC ?_ ?_); (focus exact rfl); simp only [go_sem]) | ((with_reducible refine an ?_ ?_); focus exact Au))
              refine ret_eq ?_; simp only [go_sem]
          | true =>
            rw [if_pos rfl] at eE
            subst eE
            rw [if_pos rfl] at eF
            subst eF
            have h6 := h6 rfl
            cases ok with
            | false =>
              rw [if_neg (by decide)] at oE
              subst oE
              rw [if_neg (by decide)] at oF
              subst oF
              simp only [haE, haR] at *
              refine PC.enter 108 [.tmp 6] [3] Go.Proofs.Tryz.func7 rfl rfl rfl rfl rfl (by simp) (AWp.of ?_); simp only [go_sem]
              repeat (first | ((with_reducible refine AWp.ofC ?_ ?_); (focus exact rfl); simp only [go_sem]) | ((with_reducible refine an ?_ ?_); focus exact Au))
              repeat ((with_reducible refine an ?_ ?_); focus exact As)
              refine (haw).val.use ?_; simp only [go_sem]
              repeat (first | ((with_reducible refine AWp.ofC ?_ ?_); (focus exact rfl); simp only [go_sem]) | ((with_reducible refine an ?_ ?_); focus exact Au))
              repeat ((with_reducible refine an ?_ ?_); focus exact As)
              refine (hsm).val.use ?_; simp only [go_sem]
              repeat ((with_reducible refine an ?_ ?_); focus exact As)
              refine GCall.use (ab true) (fun _ => ⟨At, (hsh).val.use ⟨rfl, rfl⟩⟩) ?_; simp only [go_sem, h100]
              repeat (first | ((with_reducible refine AWp.ofC ?_ ?_); (focus exact rfl); simp only [go_sem]) | ((with_reducible refine an ?_ ?_); focus exact Au))
              repeat ((with_reducible refine an ?_ ?_); focus exact As)
              refine (h1).val.use ?_; simp only [go_sem]
              repeat (first | ((with_reducible refine AWp.ofC ?_ ?_); (focus exact rfl); simp only [go_sem]) | ((with_reducible refine an ?_ ?_); focus exact Au))
              repeat ((with_reducible refine an ?_ ?_); focus exact As)
              refine (h2).val.use ?_; simp only [go_sem]
              repeat (first | ((with_reducible refine AWp.ofC ?_ ?_); (focus exact rfl); simp only [go_sem]) | ((with_reducible refine an ?_ ?_); focus exact Au))
              repeat ((with_reducible refine an ?_ ?_); focus exact As)
              refine (h3).val.use ?_; simp only [go_sem]
              repeat (first | ((with_reducible refine AWp.ofC ?_ ?_); (focus exact rfl); simp only [go_sem]) | ((with_reducible refine an ?_ ?_); focus exact Au))
              repeat ((with_reducible refine an ?_ ?_); focus exact As)
              refine (h4).val.use ?_; simp only [go_sem]
              repeat (first | ((with_reducible refine AWp.ofC ?_ ?_); (focus exact rfl); simp only [go_sem]) | ((with_reducible refine an ?_ ?_); focus exact Au))
              repeat ((with_reducible refine an ?_ ?_); focus exact As)
              refine (hrv).val.use ?_; simp only [go_sem]
              repeat (first | ((with_reducible refine AWp.ofC ?_ ?_); (focus exact rfl); simp only [go_sem, z0, Int.reduceEq]) | ((with_reducible refine an ?_ ?_); focus exact Au))
              repeat ((with_reducible refine an ?_ ?_); focus exact As)
              refine GCall.use (.sl 2 (x.map aEid)) (fun _ => ⟨At, (h6).val.use ⟨rfl, rfl⟩⟩) ?_; simp only [go_sem]
              repeat ((with_reducible refine an ?_ ?_); focus exact As)
              refine GCall.use (ab true) (fun _ => ⟨At, (h7).val.use ⟨rfl, rfl⟩⟩) ?_; simp only [go_sem]
              repeat (first | ((with_reducible refine AWp.ofC ?_ ?_); (focus exact rfl); simp only [go_sem]) | ((with_reducible refine an ?_ ?_); focus exact Au))
              repeat ((with_reducible refine an ?_ ?_); focus exact As)
              refine (h5).val.use ?_; simp only [go_sem]
              repeat (first | ((with_reducible refine AWp.ofC ?_ ?_); (focus exact rfl); simp only [go_sem, z0]) | ((with_reducible refine an ?_ ?_); focus exact Au))
              refine ret_eq ?_; simp only [go_sem]
            | true =>
              rw [if_pos rfl] at oE
              subst oE
              rw [if_pos rfl] at oF
              subst oF
              have hww := hokv rfl
              subst hww
              have h8 := h8 rfl
              rw [decide_eq_true rfl] at h8
              simp only [haE, haR] at *
              refine PC.enter 108 [.tmp 6] [3] Go.Proofs.Tryz.func7 rfl rfl rfl rfl rfl (by simp) (AWp.of ?_); simp only [go_sem]
              repeat (first | ((with_reducible refine AWp.ofC ?_ ?_); (focus exact rfl); simp only [go_sem]) | ((with_reducible refine an ?_ ?_); focus exact Au))
              repeat ((with_reducible refine an ?_ ?_); focus exact As)
              refine (haw).val.use ?_; simp only [go_sem]
              repeat (first | ((with_reducible refine AWp.ofC ?_ ?_); (focus exact rfl); simp only [go_sem]) | ((with_reducible refine an ?_ ?_); focus exact Au))
              repeat ((with_reducible refine an ?_ ?_); focus exact As)
              refine (hsm).val.use ?_; simp only [go_sem]
              repeat ((with_reducible refine an ?_ ?_); focus exact As)
              refine GCall.use (ab true) (fun _ => ⟨At, (hsh).val.use ⟨rfl, rfl⟩⟩) ?_; simp only [go_sem, h100]
              repeat (first | ((with_reducible refine AWp.ofC ?_ ?_); (focus exact rfl); simp only [go_sem]) | ((with_reducible refine an ?_ ?_); focus exact Au))
              repeat ((with_reducible refine an ?_ ?_); focus exact As)
              refine (h1).val.use ?_; simp only [go_sem]
              repeat (first | ((with_reducible refine AWp.ofC ?_ ?_); (focus exact rfl); simp only [go_sem]) | ((with_reducible refine an ?_ ?_); focus exact Au))
              repeat ((with_reducible refine an ?_ ?_); focus exact As)
              refine (h2).val.use ?_; simp only [go_sem]
              repeat (first | ((with_reducible refine AWp.ofC ?_ ?_); (focus exact rfl); simp only [go_sem]) | ((with_reducible refine an ?_ ?_); focus exact Au))
              repeat ((with_reducible refine an ?_ ?_); focus exact As)
              refine (h3).val.use ?_; simp only [go_sem]
              repeat (first | ((with_reducible refine AWp.ofC ?_ ?_); (focus exact rfl); simp only [go_sem]) | ((with_reducible refine an ?_ ?_); focus exact Au))
              repeat ((with_reducible refine an ?_ ?_); focus exact As)
              refine (h4).val.use ?_; simp only [go_sem]
              repeat (first | ((with_reducible refine AWp.ofC ?_ ?_); (focus exact rfl); simp only [go_sem]) | ((with_reducible refine an ?_ ?_); focus exact Au))
              repeat ((with_reducible refine an ?_ ?_); focus exact As)
              refine (hrv).val.use ?_; simp only [go_sem]
              repeat (first | ((with_reducible refine AWp.ofC ?_ ?_); (focus exact rfl); simp only [go_sem, Int.reduceEq]) | ((with_reducible refine an ?_ ?_); focus exact Au))
              repeat ((with_reducible refine an ?_ ?_); focus exact As)
              refine GCall.use (.sl 2 (x.map aEid)) (fun _ => ⟨At, (h6).val.use ⟨rfl, rfl⟩⟩) ?_; simp only [go_sem]
              repeat ((with_reducible refine an ?_ ?_); focus exact As)
              refine GCall.use (ab true) (fun _ => ⟨At, (h7).val.use ⟨rfl, rfl⟩⟩) ?_; simp only [go_sem]
              repeat (first | ((with_reducible refine AWp.ofC ?_ ?_); (focus exact rfl); simp only [go_sem]) | ((with_reducible refine an ?_ ?_); focus exact Au))
              repeat ((with_reducible refine an ?_ ?_); focus exact As)
              refine (h5).val.use ?_; simp only [go_sem]
              repeat (first | ((with_reducible refine AWp.ofC ?_ ?_); (focus exact rfl); simp only [go_sem, Int.reduceEq]) | ((with_reducible refine an ?_ ?_); focus exact Au))
              repeat ((with_reducible refine an ?_ ?_); focus exact As)
              refine GCall.use (ab true) (fun _ => ⟨At, (h8).val.use ⟨rfl, rfl⟩⟩) ?_; simp only [go_sem]
              repeat (first | ((with_reducible refine AWp.ofC ?_ ?_); (focus exact rfl); simp only [go_sem]) | ((with_reducible refine an ?_ ?_); focus exact Au))
              refine ret_eq ?_; simp only [go_sem]
end Go.AL
end
section
/- A trace is read: its processes are no more than a slice may have. No condition. -/
namespace Go.AL
open Go Go.RowKit
set_option maxRecDepth 100000
section
variable {H : Type} {enc : TypeId × Value → H} {W : World}
end
end Go.AL
end
section
/- Events' names are read; a byte. No condition. -/
namespace Go.AL
open Go Go.RowKit
set_option maxRecDepth 100000
section
variable {H : Type} {enc : TypeId × Value → H} {W : World}
theorem rdEid : Rd enc Go.Proofs.Tryz.prog W 66 2 aEid (fun _ => True) :=
  (Rd.struct (ts := [3, 3]) Go.Proofs.Tryz.underlying66 rfl rfl (by kernel_rfl) (by kernel_rfl)
    (.cons (Rd.int Go.Proofs.Tryz.underlying3) (fun _ => ⟨rfl, rfl⟩) (.cons (Rd.int Go.Proofs.Tryz.underlying3) (fun _ => ⟨rfl, rfl⟩) .nil))).map (fun (y : Int × Int × Unit) => (y.1, y.2.1)) (fun _ => rfl) (fun _ _ => trivial)
theorem rdEids : Rd enc Go.Proofs.Tryz.prog W 60 1 (fun l : List Eid => .sl 2 (l.map aEid)) (fun l => l.length ≤ maxLen) :=
  (Rd.slice Go.Proofs.Tryz.underlying60 (by kernel_rfl : Program.cellsOf Go.Proofs.Tryz.prog 66 = 2) (by decide) rdEid).map id (fun _ => rfl) (fun _ h => h.1)
theorem Rd.u8 {P : Program} {t : TypeId} (ht : P.underlying t = some (.int .u8)) : Rd enc P W t 1 (fun n : Int => .v (.int .u8 n)) (fun n => 0 ≤ n ∧ n ≤ 255) := by
  intro fuel cs x h
  obtain ⟨n, rfl, _, hw⟩ := DataW.trod_int ht h
  have hb : IntKind.u8.min ≤ n ∧ n ≤ IntKind.u8.max := by
    unfold Lit.wf at hw
    rwa [Bool.and_eq_true, decide_eq_true_eq, decide_eq_true_eq] at hw
  refine ⟨n, ⟨Int.le_trans (by decide) hb.1, Int.le_trans hb.2 (by decide)⟩, ⟨rfl, rfl⟩, rfl, fun i c u h1 h2 => ?_⟩
  cases i with
  | zero => cases h1; cases h2; exact .v _
  | succ i => cases h2
end
end Go.AL
end
section
/- Irreducible cuts: the walks. No condition. -/
namespace Go.AL
open Go Go.RowKit
set_option maxRecDepth 4000
end Go.AL
end
section
/- Meets; equal or smaller cuts in lists. No condition. -/
namespace Go.AL
open Go Go.RowKit
set_option maxRecDepth 4000
end Go.AL
end
section
/- The reference's Irreducible, Find, Between. No condition. -/
namespace Go.AL
open Go Go.RowKit
set_option maxRecDepth 4000
theorem ref23_Find (l : List (List Int)) (c : List Int) (hl : l.length ≤ 1000000) (hx : ∀ x ∈ l, x.length ≤ 1000000) : PC Go.Proofs.Tryz.prog 57 [aRows l, aInts c] (ai (idxF l c)) := by
  have hR : ∀ x : List (List Int), aRows x = .sl 1 (x.map aInts) := fun _ => rfl
  have hid : idxF l c = match l.findIdx? fun d => decide (d = c) with | some i => (i : Int) | none => -1 := by
    unfold idxF
    have : (fun d => decide (c = d)) = fun d => decide (d = c) := funext fun d => by rw [decide_eq_decide]; exact eq_comm
    rw [this]; rfl
  rw [hR]
  refine PC.enter 19 [.tmp 4] [] Go.Proofs.Tryz.func57 rfl rfl rfl rfl rfl (by simp) (AWp.of ?_); simp only [go_sem]
  repeat (first | ((with_reducible refine AWp.ofC ?_ ?_); (focus exact rfl); simp only [go_sem]) | ((with_reducible refine an ?_ ?_); focus exact Au))
  refine AWp.block (AWp.count 5 l.length [] [0, 1] (fun k vs L => L = [] ∧ ∀ (j : Nat) (hj : j < l.length), j < k → ¬ l[j] = c) rfl rfl ⟨rfl, fun j hj h => by omega⟩ ?_)
  rintro k vs L hk - ⟨rfl, hI⟩
  simp only [go_sem]
  repeat (first | ((with_reducible refine AWp.ofC ?_ ?_); (focus exact rfl); simp only [go_sem]) | ((with_reducible refine an ?_ ?_); focus exact Au))
  refine ⟨fun h1 => ?_, fun h1 => ?_⟩
  · have hkl : k < l.length := by omega
    have hg := getD_map (f := aInts) hkl
    have hS := ref15_SameList l[k] c (hx _ (List.getElem_mem hkl))
    repeat (first | ((with_reducible refine AWp.ofC ?_ ?_); (focus exact rfl); simp only [go_sem, hg]) | ((with_reducible refine an ?_ ?_); focus exact Au))
    repeat ((with_reducible refine an ?_ ?_); focus exact As)
    refine (hS).val.use ?_; simp only [go_sem]
    repeat (first | ((with_reducible refine AWp.ofC ?_ ?_); (focus exact rfl); simp only [go_sem]) | ((with_reducible refine an ?_ ?_); focus exact Au))
    refine ⟨fun h2 => ?_, fun h2 => ?_⟩
    · have : (l.findIdx? fun d => decide (d = c)) = some k := by
        rw [List.findIdx?_eq_some_iff_getElem]
        exact ⟨hkl, decide_eq_true h2, fun j hj => by simpa using hI j (by omega) hj⟩
      rw [this] at hid
      rw [hid]
      repeat (first | ((with_reducible refine AWp.ofC ?_ ?_); (focus exact rfl); simp only [go_sem]) | ((with_reducible refine an ?_ ?_); focus exact Au))
      refine ret_eq ?_; simp only [go_sem]
    · repeat (first | ((with_reducible refine AWp.ofC ?_ ?_); (focus exact rfl); simp only [go_sem]) | ((with_reducible refine an ?_ ?_); focus exact Au))
      refine ⟨_, List.Sublist.refl _, rfl, fun j hj hjk => ?_⟩
      by_cases e : j = k
      · subst e; exact h2
      · exact hI j hj (by omega)
  · have : (l.findIdx? fun d => decide (d = c)) = none := by
      rw [List.findIdx?_eq_none_iff]
      intro x hx
      obtain ⟨j, hj, rfl⟩ := List.getElem_of_mem hx
      exact decide_eq_false (hI j hj (by omega))
    rw [this] at hid
    rw [hid]
    repeat (first | ((with_reducible refine AWp.ofC ?_ ?_); (focus exact rfl); simp only [go_sem]) | ((with_reducible refine an ?_ ?_); focus exact Au))
    refine ret_eq ?_; simp only [go_sem]
end Go.AL
end
section
/- The reference of runs: Count. No condition. -/
namespace Go.AL
open Go Go.RowKit
set_option maxRecDepth 4000
theorem le_sum_of {x : Nat} : ∀ {l : List Nat}, x ∈ l → x ≤ l.sum
  | y :: l, h => by
    rw [List.sum_cons]
    rcases List.mem_cons.1 h with rfl | h
    · omega
    · have := le_sum_of h; omega
theorem way_pos {ps : List Pr} (hv : validF ps = true) : ∀ (n : Nat) {c : List Int}, isF ps c = true → c.sum + n = off ps ps.length → 1 ≤ wayV ps c
  | 0, c, hc, h => by rw [wayV_full (by omega)]; exact Nat.le_refl _
  | n + 1, c, hc, h => by
    have hcl := (isF_iff.1 hc).1
    obtain ⟨p, hp, hpl, hF, -⟩ := first_to hv hc (fullC_is hv) (leq_full hc) (by rw [fullC_sum]; omega)
    obtain ⟨p1, p2, -⟩ := firstP_some hp
    rw [wayV_stp hc (by omega)]
    have h1 : (stpC c p).sum = c.sum + 1 := sum_stpC p1
    have h2 := way_pos hv n hF (by omega)
    have h3 : wayV ps (stpC c p) ∈ (enF ps c c.length).map fun p => wayV ps (stpC c p) := List.mem_map.2 ⟨p, mem_enF.2 ⟨p1, p2⟩, rfl⟩
    exact Nat.le_trans h2 (le_sum_of h3)
theorem prcT_succ (ps : List Pr) (l : List (List Int)) (i : Nat) (A : Nat → Nat) (E : List Nat) {k : Nat} (hk : k < E.length) :
    prcT ps l i A (E.take (k + 1)) = addA (prcT ps l i A (E.take k)) (idxN l (stpC (l.getD i []) E[k])) (prcT ps l i A (E.take k) i) := by
  unfold prcT
  rw [List.take_succ_eq_append_getElem hk, List.foldl_append]; rfl
def satR (A : Nat → Nat) (n : Nat) : List AV := (List.range n).map fun j => ai (satV (A j))
theorem satR_len (A : Nat → Nat) (n : Nat) : (satR A n).length = n := by simp [satR]
theorem satR_get {A : Nat → Nat} {n j : Nat} (h : j < n) : (satR A n).getD j .any = ai (satV (A j)) := by
  unfold satR
  rw [List.getD_eq_getElem?_getD, List.getElem?_map, List.getElem?_range h]; rfl
theorem satR_set {A : Nat → Nat} {n j x : Nat} : (satR A n).set j (ai (satV (A j + x))) = satR (addA A j x) n := by
  unfold satR
  rw [map_range_set n j]
  refine List.map_congr_left fun i _ => ?_
  unfold addA
  by_cases e : i = j
  · subst e; rw [if_pos rfl, if_pos rfl]
  · rw [if_neg e, if_neg e]
set_option maxHeartbeats 2000000 in
theorem ref24_Count (ps : List Pr) (hs : Sm ps) (hv : validF ps = true) (h1000 : (cutsF ps).length ≤ 1000) : PC Go.Proofs.Tryz.prog 14 [aTr ps] (.tup [ai (cnN ps), ai (cnE ps)]) := by
  have hLi := ref23_List ps hs hv
  rw [if_neg (by omega)] at hLi
  have haR : ∀ x : List (List Int), aRows x = .sl 1 (x.map aInts) := fun _ => rfl
  have hz0 : lstE ps = 0 := lst_zero.2 ⟨hv, by omega⟩
  have hcE : cnE ps = if 1125899906842624 < wayV ps (zeroC ps) then 9 else 0 := by unfold cnE; rw [hz0, if_neg (by decide)]
  have hcN : cnN ps = if cnE ps = 0 then (wayV ps (zeroC ps) : Int) else 0 := rfl
  have hm : ∀ c, c ∈ cutsF ps ↔ isF ps c = true := fun c => mem_cutsF hv
  have hl0 := lst_len0 hv (l := cutsF ps) rfl
  have hfc := fwd_count hv (l := cutsF ps) rfl
  have hstep := fun (i : Nat) (hi : i < (cutsF ps).length) p hp => idx_step hv (l := cutsF ps) rfl hi (p := p) hp
  have hen := fun d hd => ref22_Enabled ps hs hv d hd
  have hl8 := (valid_len hv).2
  generalize cnE ps = ce at *
  generalize cnN ps = cn at *
  generalize cutsF ps = l at *
  have hFi := fun c => ref23_Find l c (by omega) fun x hx => by have := (isF_iff.1 ((hm x).1 hx)).1; omega
  have hinit : (List.replicate l.length (ai 0)).set 0 (ai 1) = satR (fwdA ps l 0) l.length := by
    unfold satR
    apply List.ext_getElem (by simp)
    intro i g1 g2
    rw [List.getElem_set]
    simp only [List.getElem_replicate, List.getElem_map, List.getElem_range, fwdA]
    by_cases e : 0 = i
    · subst e; rfl
    · rw [if_neg e, if_neg (fun h => e h.symm)]; rfl
  rw [haR] at *
  refine PC.enter 78 [.tmp 2, .tmp 3] [1] Go.Proofs.Tryz.func14 rfl rfl rfl rfl rfl (by simp) (AWp.of ?_); simp only [go_sem]
  repeat (first | ((with_reducible refine AWp.ofC ?_ ?_); (focus exact rfl); simp only [go_sem]) | ((with_reducible refine an ?_ ?_); focus exact Au))
  repeat ((with_reducible refine an ?_ ?_); focus exact As)
  refine (hLi).val.use ?_; simp only [go_sem]
  repeat (first | ((with_reducible refine AWp.ofC ?_ ?_); (focus exact rfl); simp only [go_sem]) | ((with_reducible refine an ?_ ?_); focus exact Au))
  repeat ((with_reducible refine an ?_ ?_); focus exact As)
  intro b20
  have hg0 : (List.replicate l.length (AV.v (.int .i64 0))).getD 0 .any = ai 0 := by
    rw [List.getD_eq_getElem?_getD, List.getElem?_replicate, if_pos hl0]; rfl
  have hrl : (List.replicate l.length (AV.v (.int .i64 0))).length = l.length := List.length_replicate
  change (List.replicate l.length (AV.v (.int .i64 0))).set 0 (.v (.int .i64 1)) = _ at hinit
  repeat (first | ((with_reducible refine AWp.ofC ?_ ?_); (focus exact rfl); simp only [go_sem, hg0, hrl, hinit]) | ((with_reducible refine an ?_ ?_); focus exact Au))
  refine AWp.block (AWp.count 7 l.length [] [1, 4, 6] (fun i vs L => L = [(b20, .row 3 1 (satR (fwdA ps l i) l.length) l.length)]) rfl rfl rfl ?_)
  rintro i vs L hi - rfl
  simp only [go_sem]
  by_cases hil : i < l.length
  · have hii : (i : Int) < (l.length : Int) := by omega
    have hgi := getD_map (f := aInts) hil
    have hF : isF ps l[i] = true := (hm _).1 (List.getElem_mem hil)
    have hcl := (isF_iff.1 hF).1
    have hcb := isF_cb hs hF
    have heni := hen l[i] hF
    have hsti := hstep i hil
    have hfs : fwdA ps l (i + 1) = prcT ps l i (fwdA ps l i) (enF ps l[i] l[i].length) := by
      have : l.getD i [] = l[i] := by rw [List.getD_eq_getElem?_getD, List.getElem?_eq_getElem hil]; rfl
      show prcT ps l i (fwdA ps l i) (enF ps (l.getD i []) (l.getD i []).length) = _
      rw [this]
    have hpt := fun (k : Nat) (hk : k < (enF ps l[i] l[i].length).length) => prcT_succ ps l i (fwdA ps l i) (enF ps l[i] l[i].length) hk
    have hgd : l.getD i [] = l[i] := by rw [List.getD_eq_getElem?_getD, List.getElem?_eq_getElem hil]; rfl
    rw [hgd] at hpt
    have hmE : ∀ p ∈ enF ps l[i] l[i].length, p < l[i].length := fun p hp => (mem_enF.1 hp).1
    have hWi := fun (p : Nat) (hp : p < l[i].length) => ref22_With l[i] hcb p hp
    have hlen := enF_len ps l[i] l[i].length
    have hEI : enI ps l[i] l[i].length = (enF ps l[i] l[i].length).map fun (p : Nat) => (p : Int) := rfl
    rw [hEI] at heni
    clear hgd hEI
    generalize enF ps l[i] l[i].length = E at *
    generalize fwdA ps l i = A0 at *
    generalize l[i] = c at *
    have hEl : ((E.map fun (p : Nat) => (p : Int)).map ai).length = E.length := by rw [List.length_map, List.length_map]
    repeat (first | ((with_reducible refine AWp.ofC ?_ ?_); (focus exact rfl); simp only [go_sem, hii]) | ((with_reducible refine an ?_ ?_); focus exact Au))
    repeat (first | (with_reducible refine AWp.seq ?_) | (with_reducible refine AWp.block ?_))
    refine AWp.read mixed [0, 1, 2, 3, 4, 5, 6] (by kernel_rfl) ?_; simp only [go_sem, hgi]
    repeat ((with_reducible refine an ?_ ?_); focus exact As)
    refine GCall.use (aInts (E.map fun (p : Nat) => (p : Int))) (fun _ => ⟨At, (heni).val.use ⟨rfl, rfl⟩⟩) ?_; simp only [go_sem]
    repeat (first | ((with_reducible refine AWp.ofC ?_ ?_); (focus exact rfl); simp only [go_sem]) | ((with_reducible refine an ?_ ?_); focus exact Au))
    refine AWp.block (AWp.count 9 E.length [] [1, 4, 6, 7, 8] (fun k vs L => L = [(b20, .row 3 1 (satR (prcT ps l i A0 (E.take k)) l.length) l.length)]) rfl rfl (by rw [List.take_zero]; rfl) ?_)
    rintro k vs L hk - rfl
    simp only [go_sem]
    by_cases hkE : k < E.length
    · have hki : (k : Int) < (E.length : Int) := by omega
      have hp : E[k] ∈ E := List.getElem_mem hkE
      have hpc := hmE _ hp
      have hge : ((E.map fun (p : Nat) => (p : Int)).map ai).getD k .any = ai (E[k] : Nat) := by
        rw [List.map_map]; exact getD_map (f := fun (p : Nat) => ai p) hkE
      have hW := hWi _ hpc
      have hFk := hFi (stpC c E[k])
      obtain ⟨j1, j2, -⟩ := hsti _ hp
      have hix : idxF l (stpC c E[k]) = (idxN l (stpC c E[k]) : Int) := by unfold idxN at *; omega
      rw [hix] at hFk
      have hstp := hpt k hkE
      have hgj := satR_get (A := prcT ps l i A0 (E.take k)) j2
      have hgi2 := satR_get (A := prcT ps l i A0 (E.take k)) hil
      have hset := satR_set (A := prcT ps l i A0 (E.take k)) (n := l.length) (j := idxN l (stpC c E[k])) (x := prcT ps l i A0 (E.take k) i)
      rw [← hstp] at hset
      have hadd := satV_add (prcT ps l i A0 (E.take k) (idxN l (stpC c E[k]))) (prcT ps l i A0 (E.take k) i)
      have b1 := satV_le (prcT ps l i A0 (E.take k) (idxN l (stpC c E[k])))
      have b2 := satV_le (prcT ps l i A0 (E.take k) i)
      have hrl2 := satR_len (prcT ps l i A0 (E.take k)) l.length
      rw [← hadd] at hset
      generalize satV (prcT ps l i A0 (E.take k) (idxN l (stpC c E[k]))) = x1 at *
      generalize satV (prcT ps l i A0 (E.take k) i) = x2 at *
      generalize satR (prcT ps l i A0 (E.take k)) l.length = row at *
      generalize idxN l (stpC c E[k]) = j at *
      generalize stpC c E[k] = d at *
      repeat (first | ((with_reducible refine AWp.ofC ?_ ?_); (focus exact rfl); simp only [go_sem, hki, hEl]) | ((with_reducible refine an ?_ ?_); focus exact Au))
      repeat (first | (with_reducible refine AWp.seq ?_) | (with_reducible refine AWp.block ?_))
      refine AWp.read mixed [0, 1, 2, 3, 4, 5, 6, 7, 8, 9, 10, 11] (by kernel_rfl) ?_; simp only [go_sem, hgi, hge]
      repeat ((with_reducible refine an ?_ ?_); focus exact As)
      refine GCall.use (aInts d) (fun _ => ⟨At, (hW).val.use ⟨rfl, rfl⟩⟩) ?_; simp only [go_sem]
      repeat ((with_reducible refine an ?_ ?_); focus exact As)
      refine GCall.use (ai j) (fun _ => ⟨At, (hFk).val.use ⟨rfl, rfl⟩⟩) ?_; simp only [go_sem]
      repeat (first | ((with_reducible refine AWp.ofC ?_ ?_); (focus exact rfl); simp only [go_sem, hgi, hge]) | ((with_reducible refine an ?_ ?_); focus exact Au))
      repeat (first | (with_reducible refine AWp.seq ?_) | (with_reducible refine AWp.block ?_))
      refine AWp.mix mixed [0, 1, 2, 3, 4, 6, 7, 8] (.step 5 (.step 9 (.step 10 (.step 11 (.step 12 (.step 13 .done .done) .done) .done) .done) .done) (.step 9 (.step 5 (.step 10 (.step 11 (.step 12 (.step 13 .done .done) .done) .done) .done) .done) .done)) (by kernel_rfl) ?_; simp only [go_sem, hgj, hgi2, hrl2]
      repeat' (first | (with_reducible refine And.intro ?_ ?_))
      all_goals first | omega | skip
      all_goals
        repeat (first | ((with_reducible refine AWp.ofC ?_ ?_); (focus exact rfl); simp only [go_sem, hset]) | ((with_reducible refine an ?_ ?_); focus exact Au))
        exact ⟨_, List.Sublist.refl _, rfl⟩
    · have hki : ¬ (k : Int) < (E.length : Int) := by omega
      have : k = E.length := by omega
      subst this
      rw [List.take_length, ← hfs]
      repeat (first | ((with_reducible refine AWp.ofC ?_ ?_); (focus exact rfl); simp only [go_sem, hki, hEl]) | ((with_reducible refine an ?_ ?_); focus exact Au))
      exact ⟨_, List.Sublist.refl _, rfl⟩
  · have hii : ¬ (i : Int) < (l.length : Int) := by omega
    have : i = l.length := by omega
    subst this
    have hgl := satR_get (A := fwdA ps l l.length) (n := l.length) (j := l.length - 1) (by omega)
    rw [hfc] at hgl
    have hixl : ((l.length : Int) - 1).toNat = l.length - 1 := by omega
    have hrl3 := satR_len (fwdA ps l l.length) l.length
    generalize satR (fwdA ps l l.length) l.length = row at *
    by_cases hbg : 1125899906842624 < wayV ps (zeroC ps)
    · have h1 : (1125899906842624 : Int) < satV (wayV ps (zeroC ps)) := by unfold satV; split <;> omega
      rw [if_pos hbg] at hcE
      subst hcE
      rw [if_neg (by decide)] at hcN
      subst hcN
      repeat (first | ((with_reducible refine AWp.ofC ?_ ?_); (focus exact rfl); simp only [go_sem, hii, hixl, hgl, h1, hrl3]) | ((with_reducible refine an ?_ ?_); focus exact Au))
      refine ret_eq ?_; simp only [go_sem]
    · have h1 : ¬ (1125899906842624 : Int) < satV (wayV ps (zeroC ps)) := by unfold satV; split <;> omega
      have h2 : satV (wayV ps (zeroC ps)) = (wayV ps (zeroC ps) : Int) := by unfold satV; rw [if_pos (by omega)]
      rw [if_neg hbg] at hcE
      subst hcE
      rw [if_pos rfl] at hcN
      subst hcN
      repeat (first | ((with_reducible refine AWp.ofC ?_ ?_); (focus exact rfl); simp only [go_sem, hii, hixl, hgl, h1, hrl3]) | ((with_reducible refine an ?_ ?_); focus exact Au))
      refine ret_eq ?_; simp only [go_sem]
      rw [h2]
end Go.AL
end
