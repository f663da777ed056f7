/- Texts of this claim's proof: WCk, WEx, WCs. No condition. -/
import Derived.Test.YtceeooppejjliaaGreatDoorM15
import Derived.Test.YtceeooppejjliaaGreatDoorM16
import Derived.Test.YtceeooppejjliaaGreatDoorM10
import Derived.Test.YtceeooppejjliaaGreatDoorM11
import Derived.Test.YtceeooppejjliaaGreatDoorM7
section
/- The package conjunctive: Check. No condition. -/
namespace Go.AL
open Go Go.RowKit
set_option maxRecDepth 4000
theorem cut_Consistent (ps : List Pr) (hs : Sm ps) (c : List Int) : PC Go.Proofs.Tryz.prog 141 [aTr ps, aInts c] (ab (decide (givenF ps [c] [] = 0))) := by
  have hg := cut_given ps hs [c] (by simp) [] (by simp)
  generalize givenF ps [c] [] = G at *
  refine PC.enter 10 [.tmp 4] [2, 7] Go.Proofs.Tryz.func141 rfl rfl rfl rfl rfl (by simp) (AWp.of ?_); simp only [go_sem]
  repeat (first | ((with_reducible refine AWp.ofC ?_ ?_); exact rfl; simp only [go_sem]) | ((with_reducible refine an ?_ ?_); exact Au))
  refine (PC.view (Vws.cons (.refl _) (Vws.cons (.refl _) (Vws.cons (.nil 1) .nil))) hg (Own.v _) ?_).val
  simp only [go_sem]
  repeat (first | ((with_reducible refine AWp.ofC ?_ ?_); exact rfl; simp only [go_sem]) | ((with_reducible refine an ?_ ?_); exact Au))
  refine ret_eq ?_; simp only [go_sem]
theorem given_isF {ps : List Pr} (hv : validF ps = true) (c : List Int) : decide (givenF ps [c] [] = 0) = isF ps c := by
  rw [Bool.eq_iff_iff, decide_eq_true_eq, givenL, isF_iff]
  simp [hv]
theorem board_satisfies (ps : List Pr) (hs : Sm ps) (hv : validF ps = true) (E : Elim) (_hE : SmE E) (hN : NeedOk ps E) (c : List Int) : PC Go.Proofs.Tryz.prog 79 [aBoard E (fun _ => 0), aTr ps, aInts c] (ab (satG ps E c)) := by
  have h1 := cut_Consistent ps hs c
  rw [given_isF hv] at h1
  unfold aBoard
  cases h : isF ps c with
  | false =>
    rw [h] at h1
    refine PC.enter 32 [.tmp 6] [4] Go.Proofs.Tryz.func79 rfl rfl rfl rfl rfl (by simp) (AWp.of ?_); simp only [go_sem]
    repeat (first | ((with_reducible refine AWp.ofC ?_ ?_); exact rfl; simp only [go_sem]) | ((with_reducible refine an ?_ ?_); exact Au))
    repeat ((with_reducible refine an ?_ ?_); exact As)
    refine (h1).val.use ?_; simp only [go_sem]
    repeat (first | ((with_reducible refine AWp.ofC ?_ ?_); exact rfl; simp only [go_sem]) | ((with_reducible refine an ?_ ?_); exact Au))
    refine ret_eq ?_; simp only [go_sem]
    unfold satG; rw [h]; rfl
  | true =>
    obtain ⟨hl, hr, _⟩ := isF_iff.1 h
    have hrr := (inRange_iff hl).1 hr
    have hps := hs.procs
    have hn := hN.n
    have hno : ∀ p, p < c.length → E.ok p (cAt c p).toNat = false → satG ps E c = false := fun p hp he => by
      unfold satG; rw [h, Bool.true_and]
      exact List.all_eq_false.2 ⟨p, List.mem_range.2 hp, by rw [he]; decide⟩
    have hyes : (∀ p, p < c.length → E.ok p (cAt c p).toNat = true) → satG ps E c = true := fun he => by
      unfold satG; rw [h, Bool.true_and, List.all_eq_true]
      exact fun p hp => he p (List.mem_range.1 hp)
    rw [h] at h1
    generalize satG ps E c = S at *
    refine PC.enter 32 [.tmp 6] [4] Go.Proofs.Tryz.func79 rfl rfl rfl rfl rfl (by simp) (AWp.of ?_); simp only [go_sem]
    repeat (first | ((with_reducible refine AWp.ofC ?_ ?_); exact rfl; simp only [go_sem]) | ((with_reducible refine an ?_ ?_); exact Au))
    repeat ((with_reducible refine an ?_ ?_); exact As)
    refine (h1).val.use ?_; simp only [go_sem]
    repeat (first | ((with_reducible refine AWp.ofC ?_ ?_); exact rfl; simp only [go_sem]) | ((with_reducible refine an ?_ ?_); exact Au))
    refine AWp.range' c.length [] [0, 13, 14] (fun k vs L => L = [] ∧ ∀ p, p < k → E.ok p (cAt c p).toNat = true) (by omega) rfl rfl rfl ⟨rfl, fun p hp => by omega⟩ ?_ ?_
    · rintro k vs L hk - ⟨rfl, hJ⟩
      have gc := getD_map (f := ai) hk
      have hca : cAt c k = c[k] := cAt_nat hk
      have hrk := hrr k (by omega)
      have htp := hN.top k (by omega)
      have g1 := okM_get (E := E) (p := k) (by omega)
      rw [hca] at hrk
      have g2 := okL_get (E := E) (p := k) (k := c[k].toNat) (by omega)
      have g3 := okL_len E k
      have g4 := okM_len E
      have hnk := hno k hk
      rw [hca] at hnk
      simp only [go_sem]
      repeat (first | ((with_reducible refine AWp.ofC ?_ ?_); exact rfl; simp only [go_sem, gc, g1, g2, g3, g4]) | ((with_reducible refine an ?_ ?_); exact Au))
      cases he : E.ok k c[k].toNat with
      | false =>
        simp only [go_sem]
        repeat (first | ((with_reducible refine AWp.ofC ?_ ?_); exact rfl; simp only [go_sem]) | ((with_reducible refine an ?_ ?_); exact Au))
        refine ret_eq ?_; simp only [go_sem]
        rw [hnk he]
      | true =>
        simp only [go_sem]
        refine ⟨_, List.Sublist.refl _, rfl, fun p hp => ?_⟩
        by_cases e : p = k
        · subst e; rw [hca]; exact he
        · exact hJ p (by omega)
    · rintro vs L - ⟨rfl, hJ⟩
      simp only [go_sem]
      repeat (first | ((with_reducible refine AWp.ofC ?_ ?_); exact rfl; simp only [go_sem]) | ((with_reducible refine an ?_ ?_); exact Au))
      refine ret_eq ?_; simp only [go_sem]
      rw [hyes hJ]
set_option maxHeartbeats 1000000 in
theorem board_ends (E : Elim) (hE : SmE E) (now : Nat → Nat) (hI : ∀ q, q < E.n → now q ≤ 1000001) (l : List Spn) (hl : l.length ≤ 9223372036854775806) (bb bn : Nat) (hb : ¬ bn = bb) :
    MCalls Go.Proofs.Tryz.prog 80 [.lp bb 3 0 0, aSps l] (boardL E now bb bn) fun r _ => r = ab (endsG E l now) := by
  have hb' : ¬ bb = bn := fun e => hb e.symm
  have hn := hE.n
  have hL : ∀ f, boardL E f bb bn = [(bb, .row 116 3 [.agg [.sl 1 (needT E), .sl 1 (okM E), .ls bn 1 0 E.n E.n]] 1), (bn, .row 3 1 (dnA E.n f) E.n)] := fun f => rfl
  have hbv : ∀ (f : Nat → Nat) (xs : List AV), Vws [(bb, .row 116 3 [.agg [.sl 1 (needT E), .sl 1 (okM E), .ls bn 1 0 E.n E.n]] 1), (bn, .row 3 1 (dnA E.n f) E.n)] (.lp bb 3 0 0 :: xs) (aBoard E f :: xs) := fun f xs => board_viewL (bn := bn) (by simp only [lk, if_true]) (by simp only [lk, hb, if_false, if_true]) xs
  have hlo := fun f h => board_lost E hE f h
  have hex := fun f h p k hp hk => board_excluded E hE f h p k hp hk
  unfold aSps
  rw [hL]
  refine MCalls.enter' 92 [.tmp 4] [6] Go.Proofs.Tryz.func80 rfl rfl rfl rfl rfl (by simp) (AWp.of ?_); simp only [go_sem]
  repeat (first | ((with_reducible refine AWp.ofC ?_ ?_); exact rfl; simp only [go_sem]) | ((with_reducible refine an ?_ ?_); exact Au))
  refine AWp.range' l.length [] [0, 8, 9] (fun k vs L => ∃ f : Nat → Nat, L = [(bb, .row 116 3 [.agg [.sl 1 (needT E), .sl 1 (okM E), .ls bn 1 0 E.n E.n]] 1), (bn, .row 3 1 (dnA E.n f) E.n)] ∧ (∀ q, q < E.n → f q ≤ 1000001) ∧ endsG E l now = endsG E (l.drop k) f) (by omega) rfl rfl rfl ⟨now, rfl, hI, rfl⟩ ?_ ?_
  · rintro k vs L hk - ⟨f, rfl, hf, he⟩
    have gl := getD_map (f := aSp) hk
    have hdr := List.drop_eq_getElem_cons hk
    rw [hdr] at he
    generalize l[k] = s at *
    obtain ⟨sp, sf, st⟩ := s
    have gl : (l.map aSp).getD k .any = .agg [ai sp, ai sf, ai st] := gl
    have hlof := hlo f hf
    simp only [go_sem]
    repeat (first | ((with_reducible refine AWp.ofC ?_ ?_); exact rfl; simp only [go_sem, gl]) | ((with_reducible refine an ?_ ?_); exact Au))
    intro b6 g6 g6'
    have g4 := okM_len E
    by_cases hrg : 0 ≤ sp ∧ sp < E.n
    · obtain ⟨p, rfl⟩ : ∃ p : Nat, sp = (p : Int) := ⟨sp.toNat, by omega⟩
      have hp : p < E.n := by omega
      have hpi : (p : Int) < E.n := hrg.2
      have htp := hE.top p
      have hfp := hf p hp
      have g0 := dnA_get hp f
      have g1 := okM_get hp
      have g3 := okL_len E p
      refine AWp.seq (AWp.seq ?_)
      refine AWp.read mixed [0, 1, 2, 3, 4, 5, 6, 7, 8, 9, 10, 11, 12, 13, 14, 15, 16, 17, 18, 19, 20, 21, 22, 23, 24, 25, 26, 27, 28, 29, 30, 31, 32, 33, 34, 35, 36, 37, 38, 39, 40, 41, 42, 43, 44, 45, 46, 47, 48, 49, 50] (by kernel_rfl) ?_; simp only [go_sem]
      refine GCall.use (ab (lostB E f)) (fun _ => ⟨At, (PC.view (hbv f _) hlof (Own.v _) ⟨rfl, rfl⟩).val⟩) ?_
      simp only [go_sem, g0, g1, g3, g4, dnA_length, hb, hb', hpi]
      repeat ((with_reducible refine an ?_ ?_); exact As)
      repeat (first | ((with_reducible refine AWp.ofC ?_ ?_); exact rfl; simp only [go_sem]) | ((with_reducible refine an ?_ ?_); exact Au))
      refine ⟨fun h5 => ?_, fun h5 => ?_⟩
      · have hbad : endsG E (((p : Int), sf, st) :: l.drop (k + 1)) f = false := by
          unfold endsG
          rw [if_neg fun h => ?_]
          obtain ⟨a0, a1, a2, a3, a4, a5⟩ := spOk_iff.1 h.1
          simp only [Int.toNat_natCast] at a1 a2 a3 a4 a5
          rw [a0] at h5
          simp only [Bool.false_eq_true, false_or] at h5
          omega
        rw [he, hbad]
        repeat (first | ((with_reducible refine AWp.ofC ?_ ?_); exact rfl; simp only [go_sem]) | ((with_reducible refine an ?_ ?_); exact Au))
        refine ret_sub [] (List.nil_sublist _) ?_
        simp only [go_sem]
      · intro h6 h7 h8 h9 h10
        obtain ⟨t, rfl⟩ : ∃ t : Nat, st = (t : Int) := ⟨st.toNat, by omega⟩
        subst h8
        have hft : f p ≤ t := by omega
        have htt : t ≤ E.top p := by omega
        have hIn : InE E f := fun q hq => by
          rcases Nat.lt_or_ge (E.top q) (f q) with h | h
          · have := lostB_iff.2 ⟨q, hq, h⟩
            rw [h5] at this; cases this
          · exact h
        have hok : spOk E f ((p : Int), (f p : Int), (t : Int)) = true := spOk_iff.2 ⟨h5, by simp, by simpa using hp, by simp, by simpa using hft, by simpa using htt⟩
        have hset : (dnA E.n f).set p (ai ((t : Int) + 1)) = dnA E.n (updN f p (t + 1)) := dnA_set (by rw [updN_self]; omega) fun q hq => updN_ne hq
        repeat (first | ((with_reducible refine AWp.ofC ?_ ?_); exact rfl; simp only [go_sem]) | ((with_reducible refine an ?_ ?_); exact Au))
        refine AWp.block (AWp.loopN [7] [0, 6, 8, 9, 10] (fun m vs L => L = [(bb, .row 116 3 [.agg [.sl 1 (needT E), .sl 1 (okM E), .ls bn 1 0 E.n E.n]] 1), (bn, .row 3 1 (dnA E.n f) E.n)] ∧ ∃ j : Nat, f p ≤ j ∧ j ≤ t + 1 ∧ m = t + 1 - j ∧ vs = [ai j] ∧ ∀ i, f p ≤ i → i < j → exB E f p i = true) (t + 1 - f p) ?_ ?_)
        · exact ⟨rfl, f p, Nat.le_refl _, by omega, rfl, rfl, fun i h1 h2 => by omega⟩
        rintro m vs L - ⟨rfl, j, hj1, hj2, rfl, rfl, hJ⟩
        by_cases hjt : j ≤ t
        · have hji : (j : Int) ≤ t := by omega
          have hexj := hex f hIn p j hp (by omega)
          simp only [go_sem]
          repeat (first | ((with_reducible refine AWp.ofC ?_ ?_); exact rfl; simp only [go_sem, hji]) | ((with_reducible refine an ?_ ?_); exact Au))
          refine (PC.view (hbv f _) hexj (Own.v _) ?_).val
          simp only [go_sem]
          cases hx : exB E f p j with
          | true =>
            repeat (first | ((with_reducible refine AWp.ofC ?_ ?_); exact rfl; simp only [go_sem]) | ((with_reducible refine an ?_ ?_); exact Au))
            refine ⟨_, List.Sublist.refl _, _, by omega, rfl, j + 1, by omega, by omega, rfl, by rw [show ((j + 1 : Nat) : Int) = (j : Int) + 1 by omega], fun i h1 h2 => ?_⟩
            by_cases e : i = j
            · subst e; exact hx
            · exact hJ i h1 (by omega)
          | false =>
            have hbad : endsG E (((p : Int), (f p : Int), (t : Int)) :: l.drop (k + 1)) f = false := by
              unfold endsG
              rw [if_neg fun h => ?_]
              have := spEx_iff.1 h.2 j (by simpa using hj1) (by simpa using hjt)
              simp only [Int.toNat_natCast] at this
              rw [hx] at this; cases this
            rw [he, hbad]
            repeat (first | ((with_reducible refine AWp.ofC ?_ ?_); exact rfl; simp only [go_sem]) | ((with_reducible refine an ?_ ?_); exact Au))
            refine ret_sub [] (List.nil_sublist _) ?_
            simp only [go_sem]
        · have hji : ¬ (j : Int) ≤ t := by omega
          have hje : j = t + 1 := by omega
          subst hje
          have hall : spEx E f ((p : Int), (f p : Int), (t : Int)) = true := spEx_iff.2 fun i h1 h2 => by
            simp only [Int.toNat_natCast] at h1 h2 ⊢
            exact hJ i h1 (by omega)
          have hnext : endsG E (((p : Int), (f p : Int), (t : Int)) :: l.drop (k + 1)) f = endsG E (l.drop (k + 1)) (updN f p (t + 1)) := by
            rw [endsG, if_pos ⟨hok, hall⟩]
            simp only [Int.toNat_natCast]
          rw [hnext] at he
          simp only [go_sem]
          repeat (first | ((with_reducible refine AWp.ofC ?_ ?_); exact rfl; simp only [go_sem, hji]) | ((with_reducible refine an ?_ ?_); exact Au))
          refine AWp.mix mixed [0, 1, 2, 4, 5, 6, 7, 8] (.step 3 (.step 9 (.step 10 .done .done) .done) .done) (by kernel_rfl) ?_; simp only [go_sem, g0, dnA_length, hb, hb']
          repeat ((with_reducible refine an ?_ ?_); exact As)
          refine ⟨_, List.Sublist.refl _, updN f p (t + 1), by rw [← hset], fun q hq => ?_, he⟩
          by_cases e : q = p
          · subst e; rw [updN_self]; omega
          · rw [updN_ne e]; exact hf q hq
    · have hbad : endsG E ((sp, sf, st) :: l.drop (k + 1)) f = false := by
        unfold endsG
        rw [if_neg fun h => ?_]
        have := spOk_iff.1 h.1
        exact hrg ⟨this.2.1, this.2.2.1⟩
      rw [he, hbad]
      have hg0 : ∀ j, ¬ j < E.n → (dnA E.n f).getD j .any = .any ∧ (okM E).getD j .any = .any := fun j hj => by
        rw [List.getD_eq_getElem?_getD, List.getD_eq_getElem?_getD, List.getElem?_eq_none (by rw [dnA_length]; omega), List.getElem?_eq_none (by rw [g4]; omega)]
        exact ⟨rfl, rfl⟩
      by_cases hneg : sp < 0
      · have hz0 : sp.toNat = 0 := by omega
        by_cases hn0 : 0 < E.n
        · have g0 := dnA_get hn0 f
          have g1 := okM_get hn0
          have g3 := okL_len E 0
          refine AWp.seq (AWp.seq ?_)
          refine AWp.read mixed [0, 1, 2, 3, 4, 5, 6, 7, 8, 9, 10, 11, 12, 13, 14, 15, 16, 17, 18, 19, 20, 21, 22, 23, 24, 25, 26, 27, 28, 29, 30, 31, 32, 33, 34, 35, 36, 37, 38, 39, 40, 41, 42, 43, 44, 45, 46, 47, 48, 49, 50] (by kernel_rfl) ?_; simp only [go_sem]
          refine GCall.use (ab (lostB E f)) (fun _ => ⟨At, (PC.view (hbv f _) hlof (Own.v _) ⟨rfl, rfl⟩).val⟩) ?_
          simp only [go_sem, hneg, hz0, g0, g1, g3, g4, dnA_length, hb, hb', Bool.or_true]
          repeat ((with_reducible refine an ?_ ?_); exact As)
          repeat (first | ((with_reducible refine AWp.ofC ?_ ?_); exact rfl; simp only [go_sem]) | ((with_reducible refine an ?_ ?_); exact Au))
          refine ret_sub [] (List.nil_sublist _) ?_
          simp only [go_sem]
        · obtain ⟨g0, g1⟩ := hg0 0 hn0
          refine AWp.seq (AWp.seq ?_)
          refine AWp.read mixed [0, 1, 2, 3, 4, 5, 6, 7, 8, 9, 10, 11, 12, 13, 14, 15, 16, 17, 18, 19, 20, 21, 22, 23, 24, 25, 26, 27, 28, 29, 30, 31, 32, 33, 34, 35, 36, 37, 38, 39, 40, 41, 42, 43, 44, 45, 46, 47, 48, 49, 50] (by kernel_rfl) ?_; simp only [go_sem]
          refine GCall.use (ab (lostB E f)) (fun _ => ⟨At, (PC.view (hbv f _) hlof (Own.v _) ⟨rfl, rfl⟩).val⟩) ?_
          simp only [go_sem, hneg, hz0, g0, g1, g4, dnA_length, hb, hb', Bool.or_true]
          repeat ((with_reducible refine an ?_ ?_); exact As)
          repeat (first | ((with_reducible refine AWp.ofC ?_ ?_); exact rfl; simp only [go_sem]) | ((with_reducible refine an ?_ ?_); exact Au))
          refine ret_sub [] (List.nil_sublist _) ?_
          simp only [go_sem]
      · have hge : (E.n : Int) ≤ sp := by omega
        obtain ⟨g0, g1⟩ := hg0 sp.toNat (by omega)
        refine AWp.seq (AWp.seq ?_)
        refine AWp.read mixed [0, 1, 2, 3, 4, 5, 6, 7, 8, 9, 10, 11, 12, 13, 14, 15, 16, 17, 18, 19, 20, 21, 22, 23, 24, 25, 26, 27, 28, 29, 30, 31, 32, 33, 34, 35, 36, 37, 38, 39, 40, 41, 42, 43, 44, 45, 46, 47, 48, 49, 50] (by kernel_rfl) ?_; simp only [go_sem]
        refine GCall.use (ab (lostB E f)) (fun _ => ⟨At, (PC.view (hbv f _) hlof (Own.v _) ⟨rfl, rfl⟩).val⟩) ?_
        simp only [go_sem, hge, hneg, g0, g1, g4, dnA_length, hb, hb', Bool.or_true]
        repeat ((with_reducible refine an ?_ ?_); exact As)
        repeat (first | ((with_reducible refine AWp.ofC ?_ ?_); exact rfl; simp only [go_sem]) | ((with_reducible refine an ?_ ?_); exact Au))
        refine ret_sub [] (List.nil_sublist _) ?_
        simp only [go_sem]
  · rintro vs L - ⟨f, rfl, hf, he⟩
    have hlof := hlo f hf
    simp only [go_sem]
    repeat ((with_reducible refine an ?_ ?_); exact As)
    refine AWp.of ?_; simp only [go_sem]
    refine (PC.view (hbv f _) hlof (Own.v _) ?_).val
    simp only [go_sem]
    repeat (first | ((with_reducible refine AWp.ofC ?_ ?_); exact rfl; simp only [go_sem]) | ((with_reducible refine an ?_ ?_); exact Au))
    refine ret_sub [] (List.nil_sublist _) ?_
    simp only [go_sem]
    rw [he, List.drop_length]; rfl
set_option maxHeartbeats 1000000 in
theorem conj_Check (ps : List Pr) (hs : Sm ps) (ts : List Pd) (hz : ∀ t ∈ ts, szF t ≤ 1000000) (htl : ts.length ≤ 1000000) (a : Ans) (hsp : a.spans.length ≤ 9223372036854775806) : PC Go.Proofs.Tryz.prog 31 [aTr ps, .sl 6 (ts.map aPd), aAns a] (ab (checkG ps ts a)) := by
  have h1 := conj_start ps hs ts hz htl
  unfold startK at h1
  obtain ⟨m0, m1, m2, m3, m4, m5, m6, m7⟩ := a
  unfold aAns aSps
  by_cases hf : conF ps ts = 0
  · obtain ⟨hv, htn, _⟩ := conF_inv hf
    have hE := elim_sm hs ts
    have hN := elim_need ps ts
    have hsat := board_satisfies ps hs hv (elimOf ps ts) hE hN m3
    have hends := fun bb bn hb => board_ends (elimOf ps ts) hE (fun _ => 0) (fun q _ => Nat.zero_le _) m6 hsp bb bn hb
    have hB : ∀ f bb bn, boardL (elimOf ps ts) f bb bn = [(bb, .row 116 3 [.agg [.sl 1 (needT (elimOf ps ts)), .sl 1 (okM (elimOf ps ts)), .ls bn 1 0 (elimOf ps ts).n (elimOf ps ts).n]] 1), (bn, .row 3 1 (dnA (elimOf ps ts).n f) (elimOf ps ts).n)] := fun f bb bn => rfl
    have hbv := fun bb bn hb => board_view (E := elimOf ps ts) (now := fun _ => 0) (bb := bb) (bn := bn) hb
    by_cases hH : m0 = 1 ∧ m4 = [] ∧ m5 = [] ∧ m7 = 0
    · obtain ⟨rfl, rfl, rfl, rfl⟩ := hH
      have hck : checkG ps ts ⟨1, m1, m2, m3, [], [], m6, 0⟩ = if m1 = true then decide (m2 = 1) && decide (m6 = []) && satG ps (elimOf ps ts) m3 else decide (m2 = 4) && decide (m3 = []) && endsG (elimOf ps ts) m6 fun _ => 0 := by
        unfold checkG; rw [if_pos ⟨hf, rfl, rfl, rfl, rfl⟩]
      rw [hck]
      rw [hf] at h1
      generalize satG ps (elimOf ps ts) m3 = S at *
      generalize (endsG (elimOf ps ts) m6 fun _ => 0) = Z at *
      generalize elimOf ps ts = E at *
      refine PC.enter 72 [.tmp 6] [3, 5] Go.Proofs.Tryz.func31 rfl rfl rfl rfl rfl (by simp) (AWp.of ?_); simp only [go_sem]
      repeat (first | ((with_reducible refine AWp.ofC ?_ ?_); exact rfl; simp only [go_sem]) | ((with_reducible refine an ?_ ?_); exact Au))
      refine h1.val.mono ?_
      rintro r L1 (⟨-, bb, bn, hb, rfl, rfl⟩ | ⟨hC, _, _⟩)
      rotate_left
      · exact absurd rfl hC
      have hc0 : ¬ (0 : Int) < ((0 : Nat) : Int) := by simp
      simp only [go_sem]
      cases m1 with
      | true =>
        repeat (first | ((with_reducible refine AWp.ofC ?_ ?_); exact rfl; simp only [go_sem, hc0]) | ((with_reducible refine an ?_ ?_); exact Au))
        refine GCall.use (ab S) ?_ ?_
        · intro g; exact ⟨At, (PC.view (Vws.cons (hbv bb bn hb) (Vws.refl _)) hsat (Own.v _) ⟨rfl, rfl⟩).val⟩
        simp only [go_sem]
        repeat (first | ((with_reducible refine AWp.ofC ?_ ?_); exact rfl; simp only [go_sem]) | ((with_reducible refine an ?_ ?_); exact Au))
        have h6 : decide ((m6.length : Int) = 0) = decide (m6 = []) := by
          cases m6 with
          | nil => simp
          | cons => simp; omega
        rw [← h6]
        refine ret_eq ?_; simp only [go_sem]
      | false =>
        by_cases h4 : m2 = 4
        · subst h4
          cases m3 with
          | nil =>
            have hc1 : (((0 : Nat) : Int) = 0) = True := by simp
            repeat ((with_reducible refine an ?_ ?_); exact As)
            refine AWp.of ?_; simp only [go_sem, hc0]
            repeat ((with_reducible refine an ?_ ?_); exact As)
            refine AWp.of ?_; simp only [go_sem]
            repeat ((with_reducible refine an ?_ ?_); exact As)
            refine AWp.of ?_; simp only [go_sem]
            repeat ((with_reducible refine an ?_ ?_); exact As)
            refine AWp.of ?_; simp only [go_sem]
            refine AWp.seq (AWp.regionF ?_)
            simp only [go_sem, hc1]
            refine (hends bb bn hb).val.mono ?_
            rintro r L rfl
            simp only [go_sem]
            repeat (first | ((with_reducible refine AWp.ofC ?_ ?_); exact rfl; simp only [go_sem]) | ((with_reducible refine an ?_ ?_); exact Au))
            refine ret_view [] ?_
            simp only [go_sem]
            exact .refl _
          | cons z r =>
            have hc1 : ¬ ((r.length + 1 : Nat) : Int) = 0 := by omega
            repeat (first | ((with_reducible refine AWp.ofC ?_ ?_); exact rfl; simp only [go_sem, hc0]) | ((with_reducible refine an ?_ ?_); exact Au))
            refine GCall.use (ab false) (fun g => absurd g (by simpa using hc1)) ?_
            simp only [go_sem, hc1]
            repeat (first | ((with_reducible refine AWp.ofC ?_ ?_); exact rfl; simp only [go_sem]) | ((with_reducible refine an ?_ ?_); exact Au))
            refine ret_eq ?_; simp only [go_sem]
        · repeat (first | ((with_reducible refine AWp.ofC ?_ ?_); exact rfl; simp only [go_sem, hc0]) | ((with_reducible refine an ?_ ?_); exact Au))
          refine GCall.use (ab false) (fun g => absurd g.1 h4) ?_
          simp only [go_sem, h4]
          repeat (first | ((with_reducible refine AWp.ofC ?_ ?_); exact rfl; simp only [go_sem]) | ((with_reducible refine an ?_ ?_); exact Au))
          refine ret_eq ?_; simp only [go_sem]
    · have hck : checkG ps ts ⟨m0, m1, m2, m3, m4, m5, m6, m7⟩ = false := by
        unfold checkG; rw [if_neg fun h => hH h.2]
      rw [hck]
      rw [hf] at h1
      clear hsat hends hbv hB hE hN
      generalize elimOf ps ts = E at *
      have h4 : (0 : Int) < m4.length ∨ ¬ (0 : Int) < m4.length ∧ m4 = [] := by
        cases m4 with
        | nil => exact .inr ⟨by simp, rfl⟩
        | cons => exact .inl (by simp)
      have h5 : (0 : Int) < m5.length ∨ ¬ (0 : Int) < m5.length ∧ m5 = [] := by
        cases m5 with
        | nil => exact .inr ⟨by simp, rfl⟩
        | cons => exact .inl (by simp)
      refine PC.enter 72 [.tmp 6] [3, 5] Go.Proofs.Tryz.func31 rfl rfl rfl rfl rfl (by simp) (AWp.of ?_); simp only [go_sem]
      repeat (first | ((with_reducible refine AWp.ofC ?_ ?_); exact rfl; simp only [go_sem]) | ((with_reducible refine an ?_ ?_); exact Au))
      refine h1.val.mono ?_
      rintro r L1 (⟨-, bb, bn, hb, rfl, rfl⟩ | ⟨hC, _, _⟩)
      rotate_left
      · exact absurd rfl hC
      simp only [go_sem]
      repeat (first | ((with_reducible refine AWp.ofC ?_ ?_); exact rfl; simp only [go_sem]) | ((with_reducible refine an ?_ ?_); exact Au))
      refine ⟨fun h6 => ?_, fun h6 => ?_⟩
      · repeat (first | ((with_reducible refine AWp.ofC ?_ ?_); exact rfl; simp only [go_sem]) | ((with_reducible refine an ?_ ?_); exact Au))
        refine ret_view [] ?_
        simp only [go_sem]
        exact .refl _
      · intro h7 h8 h9
        exfalso
        rcases h4 with h | ⟨_, h4⟩
        · exact h7 h
        rcases h5 with h | ⟨_, h5⟩
        · exact h8 h
        exact hH ⟨by omega, h4, h5, h9⟩
  · have hck : checkG ps ts ⟨m0, m1, m2, m3, m4, m5, m6, m7⟩ = false := by
      unfold checkG; rw [if_neg fun h => hf h.1]
    rw [hck]
    generalize conF ps ts = C at *
    refine PC.enter 72 [.tmp 6] [3, 5] Go.Proofs.Tryz.func31 rfl rfl rfl rfl rfl (by simp) (AWp.of ?_); simp only [go_sem]
    repeat (first | ((with_reducible refine AWp.ofC ?_ ?_); exact rfl; simp only [go_sem]) | ((with_reducible refine an ?_ ?_); exact Au))
    refine h1.val.mono ?_
    rintro r L1 (⟨h0, _⟩ | ⟨hC, rfl, rfl⟩)
    · exact absurd h0 hf
    simp only [go_sem]
    repeat (first | ((with_reducible refine AWp.ofC ?_ ?_); exact rfl; simp only [go_sem, hf]) | ((with_reducible refine an ?_ ?_); exact Au))
    refine ret_eq ?_; simp only [go_sem]
end Go.AL
end
section
/- The reference of layer 37: faults, and which states are excluded. No condition. -/
namespace Go.AL
open Go Go.RowKit
set_option maxRecDepth 4000
theorem ref37_Fault (ps : List Pr) (hs : Sm ps) (ts : List Pd) (hz : ∀ t ∈ ts, szF t ≤ 1000000) (htl : ts.length ≤ 1000000) : PC Go.Proofs.Tryz.prog 26 [aTr ps, .sl 6 (ts.map aPd)] (ai (conF ps ts)) := by
  have h1 := ref12_Valid ps hs
  have hl := hs.procs
  by_cases hv : validF ps = true ∧ ts.length = ps.length
  · have hvl : (ts.length : Int) = ps.length := by omega
    rw [hv.1] at h1
    have hhit := fun p hp => conF_hit hv (p := p) hp
    have hzero := conF_zero hv
    generalize conF ps ts = C at *
    refine PC.enter 34 [.tmp 4] [2] Go.Proofs.Tryz.func26 rfl rfl rfl rfl rfl (by simp) (AWp.of ?_); simp only [go_sem]
    repeat (first | ((with_reducible refine AWp.ofC ?_ ?_); exact rfl; simp only [go_sem]) | ((with_reducible refine an ?_ ?_); exact Au))
    repeat ((with_reducible refine an ?_ ?_); exact As)
    refine (h1).val.use ?_; simp only [go_sem, hvl]
    repeat (first | ((with_reducible refine AWp.ofC ?_ ?_); exact rfl; simp only [go_sem]) | ((with_reducible refine an ?_ ?_); exact Au))
    refine AWp.block (AWp.count 5 ts.length [] [1, 2] (fun p vs L => L = [] ∧ ∀ q (hq : q < ts.length), q < p → lclF ps q 0 ts[q] = 0) rfl rfl ⟨rfl, fun q hq h => by omega⟩ ?_)
    rintro p vs L hp - ⟨rfl, hJ⟩
    simp only [go_sem]
    repeat (first | ((with_reducible refine AWp.ofC ?_ ?_); exact rfl; simp only [go_sem]) | ((with_reducible refine an ?_ ?_); exact Au))
    refine ⟨fun h2 => ?_, fun h2 => ?_⟩
    · have hpt : p < ts.length := by omega
      have hgt := getD_map (f := aPd) hpt
      have hlf := ref29_LocalFault ps hs p 0 ts[p] (hz _ (List.getElem_mem hpt))
      have hh := hhit p hpt hJ
      generalize hE : lclF ps p 0 ts[p] = e at *
      generalize hT : ts[p] = t at *
      obtain ⟨k0, n, pp, q, s, l⟩ := t
      simp only [aPd_mk] at *
      refine AWp.seq (AWp.block (AWp.seq ?_))
      refine AWp.mix mixed [0, 1, 2, 3, 4, 5, 6, 7] .done (by kernel_rfl) ?_; simp only [go_sem, hgt]
      repeat ((with_reducible refine an ?_ ?_); exact As)
      repeat ((with_reducible refine an ?_ ?_); exact As)
      refine GCall.use (ai e) (fun _ => ⟨At, (hlf).val.use ⟨rfl, rfl⟩⟩) ?_; simp only [go_sem]
      repeat ((with_reducible refine an ?_ ?_); exact As)
      repeat (first | ((with_reducible refine AWp.ofC ?_ ?_); exact rfl; simp only [go_sem]) | ((with_reducible refine an ?_ ?_); exact Au))
      refine ⟨fun h3 => ?_, fun h3 => ?_⟩
      · repeat (first | ((with_reducible refine AWp.ofC ?_ ?_); exact rfl; simp only [go_sem]) | ((with_reducible refine an ?_ ?_); exact Au))
        refine ret_eq ?_; simp only [go_sem]
        rw [hh h3]
      · repeat (first | ((with_reducible refine AWp.ofC ?_ ?_); exact rfl; simp only [go_sem]) | ((with_reducible refine an ?_ ?_); exact Au))
        refine ⟨_, List.Sublist.refl _, rfl, fun j hj hjp => ?_⟩
        by_cases ej : j = p
        · subst ej; rw [hT, hE, h3]
        · exact hJ j hj (by omega)
    · repeat (first | ((with_reducible refine AWp.ofC ?_ ?_); exact rfl; simp only [go_sem]) | ((with_reducible refine an ?_ ?_); exact Au))
      refine ret_eq ?_; simp only [go_sem]
      rw [hzero fun q hq => hJ q hq (by omega)]
  · rw [conF_bad hv]
    by_cases hv1 : validF ps = true
    · have hvl : ¬ (ts.length : Int) = ps.length := fun e => hv ⟨hv1, by omega⟩
      rw [hv1] at h1
      refine PC.enter 34 [.tmp 4] [2] Go.Proofs.Tryz.func26 rfl rfl rfl rfl rfl (by simp) (AWp.of ?_); simp only [go_sem]
      repeat (first | ((with_reducible refine AWp.ofC ?_ ?_); exact rfl; simp only [go_sem]) | ((with_reducible refine an ?_ ?_); exact Au))
      repeat ((with_reducible refine an ?_ ?_); exact As)
      refine (h1).val.use ?_; simp only [go_sem, hvl]
      repeat (first | ((with_reducible refine AWp.ofC ?_ ?_); exact rfl; simp only [go_sem]) | ((with_reducible refine an ?_ ?_); exact Au))
      refine ret_eq ?_; simp only [go_sem]
    · rw [show validF ps = false by simpa using hv1] at h1
      refine PC.enter 34 [.tmp 4] [2] Go.Proofs.Tryz.func26 rfl rfl rfl rfl rfl (by simp) (AWp.of ?_); simp only [go_sem]
      repeat (first | ((with_reducible refine AWp.ofC ?_ ?_); exact rfl; simp only [go_sem]) | ((with_reducible refine an ?_ ?_); exact Au))
      repeat ((with_reducible refine an ?_ ?_); exact As)
      refine (h1).val.use ?_; simp only [go_sem]
      repeat (first | ((with_reducible refine AWp.ofC ?_ ?_); exact rfl; simp only [go_sem]) | ((with_reducible refine an ?_ ?_); exact Au))
      refine ret_eq ?_; simp only [go_sem]
end Go.AL
end
section
/- The references of the layers 22 and 37: consistent cuts, and cuts that satisfy locals. No condition. -/
namespace Go.AL
open Go Go.RowKit
set_option maxRecDepth 4000
theorem ref22_Fits (ps : List Pr) (hs : Sm ps) (c : List Int) : PC Go.Proofs.Tryz.prog 137 [aTr ps, aInts c] (ab (decide (c.length = ps.length))) := by
  have hl := hs.procs
  refine PC.enter 11 [.tmp 4] [2] Go.Proofs.Tryz.func137 rfl rfl rfl rfl rfl (by simp) (AWp.of ?_); simp only [go_sem]
  repeat (first | ((with_reducible refine AWp.ofC ?_ ?_); exact rfl; simp only [go_sem]) | ((with_reducible refine an ?_ ?_); exact Au))
  refine ret_eq ?_; simp only [go_sem]
  congr 2
  simp only [decide_eq_decide]; omega
theorem ref22_Range (ps : List Pr) (hs : Sm ps) (c : List Int) (hc : c.length = ps.length) : PC Go.Proofs.Tryz.prog 138 [aTr ps, aInts c] (ab (inRangeF ps c)) := by
  have hl := hs.procs
  refine PC.enter 31 [.tmp 4] [2] Go.Proofs.Tryz.func138 rfl rfl rfl rfl rfl (by simp) (AWp.of ?_); simp only [go_sem]
  repeat (first | ((with_reducible refine AWp.ofC ?_ ?_); exact rfl; simp only [go_sem]) | ((with_reducible refine an ?_ ?_); exact Au))
  refine AWp.block (AWp.count 5 c.length [] [1, 2] (fun p vs L => L = [] ∧ ∀ q, q < p → cntOk ps c q = true) rfl rfl ⟨rfl, by omega⟩ ?_)
  rintro p vs L hp - ⟨rfl, hI⟩
  simp only [go_sem]
  repeat (first | ((with_reducible refine AWp.ofC ?_ ?_); exact rfl; simp only [go_sem]) | ((with_reducible refine an ?_ ?_); exact Au))
  refine ⟨fun h2 => ?_, fun h2 => ?_⟩
  · have hpc : p < c.length := by omega
    have hpp : p < ps.length := by omega
    have hco := cntOk_get hpp hpc
    have hgP := getD_map (f := aPr) hpp
    have hgc := getD_map (f := ai) hpc
    refine AWp.seq (AWp.block (AWp.seq ?_))
    refine AWp.drawn mixed 19 (by kernel_rfl) ?_; simp only [go_sem, hgP, hgc]
    repeat ((with_reducible refine an ?_ ?_); exact As)
    repeat (first | ((with_reducible refine AWp.ofC ?_ ?_); exact rfl; simp only [go_sem]) | ((with_reducible refine an ?_ ?_); exact Au))
    refine ⟨fun h3 => ?_, fun h3 => ?_⟩
    · repeat (first | ((with_reducible refine AWp.ofC ?_ ?_); exact rfl; simp only [go_sem]) | ((with_reducible refine an ?_ ?_); exact Au))
      refine ret_eq ?_; simp only [go_sem]
      have : inRangeF ps c = false := by
        unfold inRangeF
        rw [List.all_eq_false]
        refine ⟨p, List.mem_range.2 hpc, ?_⟩
        rw [hco]
        simp only [Bool.and_eq_true, decide_eq_true_eq]
        omega
      rw [this]
    · intro h4
      repeat (first | ((with_reducible refine AWp.ofC ?_ ?_); exact rfl; simp only [go_sem]) | ((with_reducible refine an ?_ ?_); exact Au))
      refine ⟨_, List.Sublist.refl _, rfl, fun q hq => ?_⟩
      by_cases e : q = p
      · subst e; rw [hco]; simp only [Bool.and_eq_true, decide_eq_true_eq]; omega
      · exact hI q (by omega)
  · repeat (first | ((with_reducible refine AWp.ofC ?_ ?_); exact rfl; simp only [go_sem]) | ((with_reducible refine an ?_ ?_); exact Au))
    refine ret_eq ?_; simp only [go_sem]
    have : inRangeF ps c = true := by
      unfold inRangeF
      rw [List.all_eq_true]
      exact fun q hq => hI q (by have := List.mem_range.1 hq; omega)
    rw [this]
theorem ref22_closed (ps : List Pr) (hs : Sm ps) (hv : validF ps = true) (c : List Int) (hc : c.length = ps.length) (hr : inRangeF ps c = true) : PC Go.Proofs.Tryz.prog 139 [aTr ps, aInts c] (ab (closedF ps c)) := by
  obtain ⟨hl1, hl8⟩ := valid_len hv
  have hl := hs.procs
  refine PC.enter 27 [.tmp 4] [2] Go.Proofs.Tryz.func139 rfl rfl rfl rfl rfl (by simp) (AWp.of ?_); simp only [go_sem]
  repeat (first | ((with_reducible refine AWp.ofC ?_ ?_); exact rfl; simp only [go_sem]) | ((with_reducible refine an ?_ ?_); exact Au))
  refine AWp.block (AWp.count 5 c.length [] [1, 2] (fun p vs L => L = [] ∧ Ahead ps (fun q j => badEv ps c (((q : Int), (j : Int) + 1), evq ps q j) = false) p 0) rfl rfl ⟨rfl, fun _ _ _ h => by omega, fun j hj => by omega⟩ ?_)
  rintro p vs L hp - ⟨rfl, hA⟩
  simp only [go_sem]
  repeat (first | ((with_reducible refine AWp.ofC ?_ ?_); exact rfl; simp only [go_sem]) | ((with_reducible refine an ?_ ?_); exact Au))
  refine ⟨fun h1 => ?_, fun h1 => ?_⟩
  · have hpc : p < c.length := by omega
    have hpp : p < ps.length := by omega
    have hgc := getD_map (f := ai) hpc
    have hel := hs.evs _ (List.getElem_mem hpp)
    obtain ⟨hr1, hr2⟩ := inRangeF_get hr hc hpp
    repeat (first | ((with_reducible refine AWp.ofC ?_ ?_); exact rfl; simp only [go_sem]) | ((with_reducible refine an ?_ ?_); exact Au))
    refine AWp.block (AWp.count 6 c[p].toNat [] [1, 2, 5] (fun i vs L => L = [] ∧ Ahead ps (fun q j => badEv ps c (((q : Int), (j : Int) + 1), evq ps q j) = false) p i) rfl rfl ⟨rfl, hA⟩ ?_)
    rintro i vs L hi - ⟨rfl, hB⟩
    simp only [go_sem]
    repeat (first | ((with_reducible refine AWp.ofC ?_ ?_); exact rfl; simp only [go_sem, hgc]) | ((with_reducible refine an ?_ ?_); exact Au))
    refine ⟨fun h2 => ?_, fun h2 => ?_⟩
    · have hie : i < ps[p].evs.length := by omega
      have hsn := ref22_Sent ps hs hv c hc p hpp i hie (by rw [cAt_nat hpc]; omega)
      have hev := evIds_get hpp hie
      have hq0 := evq_get hpp hie
      rw [← hq0] at hsn hev
      repeat (first | ((with_reducible refine AWp.ofC ?_ ?_); exact rfl; simp only [go_sem]) | ((with_reducible refine an ?_ ?_); exact Au))
      repeat ((with_reducible refine an ?_ ?_); exact As)
      refine (hsn).val.use ?_; simp only [go_sem]
      cases hb : badEv ps c (((p : Int), (i : Int) + 1), evq ps p i) with
      | true =>
        repeat (first | ((with_reducible refine AWp.ofC ?_ ?_); exact rfl; simp only [go_sem]) | ((with_reducible refine an ?_ ?_); exact Au))
        refine ret_eq ?_; simp only [go_sem]
        unfold closedF
        have : (evIds ps).any (badEv ps c) = true := List.any_eq_true.2 ⟨_, List.mem_of_getElem? hev, hb⟩
        rw [this]; rfl
      | false =>
        repeat (first | ((with_reducible refine AWp.ofC ?_ ?_); exact rfl; simp only [go_sem]) | ((with_reducible refine an ?_ ?_); exact Au))
        exact ⟨_, List.Sublist.refl _, rfl, hB.next hb⟩
    · repeat (first | ((with_reducible refine AWp.ofC ?_ ?_); exact rfl; simp only [go_sem]) | ((with_reducible refine an ?_ ?_); exact Au))
      refine ⟨_, List.Sublist.refl _, rfl, Ahead.row hpp ⟨hB.1, fun j hj => ?_⟩⟩
      by_cases e : j < i
      · exact hB.2 j e
      · simp only [badEv, cAt_nat hpc, decide_eq_false (show ¬ (j : Int) + 1 ≤ c[p] by omega), Bool.and_false, Bool.false_and]
  · repeat (first | ((with_reducible refine AWp.ofC ?_ ?_); exact rfl; simp only [go_sem]) | ((with_reducible refine an ?_ ?_); exact Au))
    refine ret_eq ?_; simp only [go_sem]
    unfold closedF
    have : (evIds ps).any (badEv ps c) = false := by
      rw [List.any_eq_false]
      intro x hx
      obtain ⟨k, hk⟩ := List.getElem?_of_mem hx
      obtain ⟨q, hq, j, hj, _, rfl⟩ := evIds_inv hk
      have := hA.1 q hq j (by omega) hj
      dsimp only at this
      rw [evq_get hq hj] at this
      rw [this]; decide
    rw [this]; rfl
theorem ref22_Consistent (ps : List Pr) (hs : Sm ps) (hv : validF ps = true) (c : List Int) : PC Go.Proofs.Tryz.prog 76 [aTr ps, aInts c] (ab (isF ps c)) := by
  have h0 := ref12_Valid ps hs
  have h1 := ref22_Fits ps hs c
  have h2 := fun h => ref22_Range ps hs c h
  have h3 := fun h1 h2 => ref22_closed ps hs hv c h1 h2
  rw [hv] at h0
  unfold isF
  generalize closedF ps c = B at *
  refine PC.enter 22 [.tmp 4] [2] Go.Proofs.Tryz.func76 rfl rfl rfl rfl rfl (by simp) (AWp.of ?_); simp only [go_sem]
  repeat (first | ((with_reducible refine AWp.ofC ?_ ?_); exact rfl; simp only [go_sem]) | ((with_reducible refine an ?_ ?_); exact Au))
  repeat ((with_reducible refine an ?_ ?_); exact As)
  refine (h0).val.use ?_; simp only [go_sem]
  repeat ((with_reducible refine an ?_ ?_); exact As)
  refine GCall.use (ab (decide (c.length = ps.length))) (fun _ => ⟨At, (h1).val.use ⟨rfl, rfl⟩⟩) ?_; simp only [go_sem]
  repeat ((with_reducible refine an ?_ ?_); exact As)
  refine GCall.use (ab (inRangeF ps c)) ?_ ?_
  · intro g; exact ⟨At, (h2 (by simpa using g)).val.use ⟨rfl, rfl⟩⟩
  simp only [go_sem]
  repeat ((with_reducible refine an ?_ ?_); exact As)
  refine GCall.use (ab B) ?_ ?_
  · intro g; exact ⟨At, (h3 (by simpa using g.1) (by simpa using g.2)).val.use ⟨rfl, rfl⟩⟩
  simp only [go_sem]
  repeat (first | ((with_reducible refine AWp.ofC ?_ ?_); exact rfl; simp only [go_sem]) | ((with_reducible refine an ?_ ?_); exact Au))
  refine ret_eq ?_; simp only [go_sem]
theorem ref37_Satisfies (ps : List Pr) (hs : Sm ps) (ts : List Pd) (hz : ∀ t ∈ ts, szF t ≤ 1000000) (htl : ts.length ≤ 1000000) (hf : conF ps ts = 0) (c : List Int) : PC Go.Proofs.Tryz.prog 29 [aTr ps, .sl 6 (ts.map aPd), aInts c] (ab (satG ps (elimOf ps ts) c)) := by
  obtain ⟨hv, htn, hlc⟩ := conF_inv hf
  have hps := hs.procs
  have h1 := ref22_Consistent ps hs hv c
  have hloc : ∀ p (hp : p < ps.length) (hpt : p < ts.length) k, k ≤ ps[p].evs.length → PC Go.Proofs.Tryz.prog 77 [aTr ps, ai p, ai (k : Nat), aPd ts[p]] (ab ((elimOf ps ts).ok p k)) := fun p hp hpt k hk => by
    obtain ⟨c1, _, _, _, c5, c6⟩ := lcl_ok (hlc p hpt)
    have h := ref29_Local ps hs p k hp hk ts[p] (hz _ (List.getElem_mem hpt)) c1 c5 c6
    have hok : (elimOf ps ts).ok p k = lclT ps p ts[p] k := by show (match ts[p]? with | some t => lclT ps p t k | none => true) = _; rw [List.getElem?_eq_getElem hpt]
    rw [hok]; exact h
  generalize elimOf ps ts = E at *
  cases h : isF ps c with
  | false =>
    have hsf : satG ps E c = false := by unfold satG; rw [h]; rfl
    rw [h] at h1
    rw [hsf]
    by_cases hl : (c.length : Int) = ps.length
    · refine PC.enter 38 [.tmp 6] [3] Go.Proofs.Tryz.func29 rfl rfl rfl rfl rfl (by simp) (AWp.of ?_); simp only [go_sem]
      repeat (first | ((with_reducible refine AWp.ofC ?_ ?_); exact rfl; simp only [go_sem, hl]) | ((with_reducible refine an ?_ ?_); exact Au))
      repeat ((with_reducible refine an ?_ ?_); exact As)
      refine GCall.use (ab false) (fun _ => ⟨At, (h1).val.use ⟨rfl, rfl⟩⟩) ?_; simp only [go_sem]
      repeat ((with_reducible refine an ?_ ?_); exact As)
      repeat (first | ((with_reducible refine AWp.ofC ?_ ?_); exact rfl; simp only [go_sem]) | ((with_reducible refine an ?_ ?_); exact Au))
      refine ret_eq ?_; simp only [go_sem]
    · refine PC.enter 38 [.tmp 6] [3] Go.Proofs.Tryz.func29 rfl rfl rfl rfl rfl (by simp) (AWp.of ?_); simp only [go_sem]
      repeat (first | ((with_reducible refine AWp.ofC ?_ ?_); exact rfl; simp only [go_sem, hl]) | ((with_reducible refine an ?_ ?_); exact Au))
      repeat ((with_reducible refine an ?_ ?_); exact As)
      refine GCall.use (ab false) (fun _ => ⟨At, (h1).val.use ⟨rfl, rfl⟩⟩) ?_; simp only [go_sem]
      repeat ((with_reducible refine an ?_ ?_); exact As)
      repeat (first | ((with_reducible refine AWp.ofC ?_ ?_); exact rfl; simp only [go_sem]) | ((with_reducible refine an ?_ ?_); exact Au))
      refine ret_eq ?_; simp only [go_sem]
  | true =>
    obtain ⟨hl, hr, _⟩ := isF_iff.1 h
    have hli : (c.length : Int) = ps.length := by omega
    have hrr := (inRange_iff hl).1 hr
    have hno : ∀ p, p < c.length → E.ok p (cAt c p).toNat = false → satG ps E c = false := fun p hp he => by
      unfold satG; rw [h, Bool.true_and]
      exact List.all_eq_false.2 ⟨p, List.mem_range.2 hp, by rw [he]; decide⟩
    have hyes : (∀ p, p < c.length → E.ok p (cAt c p).toNat = true) → satG ps E c = true := fun he => by
      unfold satG; rw [h, Bool.true_and, List.all_eq_true]
      exact fun p hp => he p (List.mem_range.1 hp)
    rw [h] at h1
    generalize satG ps E c = S at *
    refine PC.enter 38 [.tmp 6] [3] Go.Proofs.Tryz.func29 rfl rfl rfl rfl rfl (by simp) (AWp.of ?_); simp only [go_sem]
    repeat (first | ((with_reducible refine AWp.ofC ?_ ?_); exact rfl; simp only [go_sem, hli]) | ((with_reducible refine an ?_ ?_); exact Au))
    repeat ((with_reducible refine an ?_ ?_); exact As)
    refine GCall.use (ab true) (fun _ => ⟨At, (h1).val.use ⟨rfl, rfl⟩⟩) ?_; simp only [go_sem]
    repeat ((with_reducible refine an ?_ ?_); exact As)
    repeat (first | ((with_reducible refine AWp.ofC ?_ ?_); exact rfl; simp only [go_sem]) | ((with_reducible refine an ?_ ?_); exact Au))
    refine AWp.block (AWp.count 7 c.length [] [1, 2, 3] (fun k vs L => L = [] ∧ ∀ p, p < k → E.ok p (cAt c p).toNat = true) rfl rfl ⟨rfl, fun p hp => by omega⟩ ?_)
    rintro k vs L hk - ⟨rfl, hJ⟩
    simp only [go_sem]
    repeat (first | ((with_reducible refine AWp.ofC ?_ ?_); exact rfl; simp only [go_sem]) | ((with_reducible refine an ?_ ?_); exact Au))
    refine ⟨fun h3 => ?_, fun h3 => ?_⟩
    · have hkc : k < c.length := by omega
      have hkt : k < ts.length := by omega
      have hkp : k < ps.length := by omega
      have gc := getD_map (f := ai) hkc
      have gt := getD_map (f := aPd) hkt
      have hca : cAt c k = c[k] := cAt_nat hkc
      have hrk := hrr k hkp
      rw [hca] at hrk
      have hnk := hno k hkc
      rw [hca] at hnk
      have hlk := hloc k hkp hkt c[k].toNat (by omega)
      have hck : ((c[k].toNat : Nat) : Int) = c[k] := by omega
      rw [hck] at hlk
      generalize c[k] = z at *
      generalize ts[k] = t at *
      obtain ⟨k0, n0, p0, q0, s0, l0⟩ := t
      simp only [aPd_mk] at *
      refine AWp.seq (AWp.block (AWp.seq ?_))
      refine AWp.mix mixed [0, 1, 2, 3, 4, 5, 6, 7, 8, 9, 10, 11] .done (by kernel_rfl) ?_; simp only [go_sem, gc, gt]
      repeat ((with_reducible refine an ?_ ?_); exact As)
      refine GCall.use (ab (E.ok k z.toNat)) ?_ ?_
      · intro _; exact ⟨At, hlk.val.use ⟨rfl, rfl⟩⟩
      simp only [go_sem]
      repeat ((with_reducible refine an ?_ ?_); exact As)
      cases he : E.ok k z.toNat with
      | false =>
        repeat (first | ((with_reducible refine AWp.ofC ?_ ?_); exact rfl; simp only [go_sem]) | ((with_reducible refine an ?_ ?_); exact Au))
        refine ret_eq ?_; simp only [go_sem]
        rw [hnk he]
      | true =>
        repeat (first | ((with_reducible refine AWp.ofC ?_ ?_); exact rfl; simp only [go_sem]) | ((with_reducible refine an ?_ ?_); exact Au))
        refine ⟨_, List.Sublist.refl _, rfl, fun p hp => ?_⟩
        by_cases e : p = k
        · subst e; rw [hca]; exact he
        · exact hJ p (by omega)
    · repeat (first | ((with_reducible refine AWp.ofC ?_ ?_); exact rfl; simp only [go_sem]) | ((with_reducible refine an ?_ ?_); exact Au))
      refine ret_eq ?_; simp only [go_sem]
      rw [hyes fun p hp => hJ p (by omega)]
end Go.AL
end
