/- Texts of this claim's proof: WU15, WU16, WRt, WRt7, WRt4, WRt6. No condition. -/
import Derived.Test.YtmnabhohlflkkaaGreatM14
import Derived.Test.YtmnabhohlflkkaaGreatM7
import Derived.Test.YtmnabhohlflkkaaGreatM4
section
/- Causality: Before, Concurrent for events that there are. No condition. -/
namespace Go.AL
open Go Go.RowKit
set_option maxRecDepth 4000
theorem causality_checkOk (ps : List Pr) (hs : Sm ps) (hv : validF ps = true) (l : List Eid) (hl : l.length ≤ 1000000) (h : ∀ x ∈ l, eidOk ps x = true) : PC Go.Proofs.Tryz.prog 80 [aTr ps, .sl 2 (l.map aEid)] (ai 0) := by
  have h1 := trace_Valid ps hs
  rw [hv] at h1
  refine PC.enter 21 [.tmp 4] [2, 6] Go.Proofs.Tryz.func80 rfl rfl rfl rfl rfl (by simp) (AWp.of ?_); simp only [go_sem]
  repeat (first | ((with_reducible refine AWp.ofC ?_ ?_); (focus exact rfl); simp only [go_sem]) | ((with_reducible refine an ?_ ?_); focus exact Au))
  repeat ((with_reducible refine an ?_ ?_); focus exact As)
  refine (h1).val.use ?_; simp only [go_sem]
  repeat (first | ((with_reducible refine AWp.ofC ?_ ?_); (focus exact rfl); simp only [go_sem]) | ((with_reducible refine an ?_ ?_); focus exact Au))
  refine AWp.range' l.length [] [2, 10, 11] (fun k vs L => L = []) (by omega) rfl rfl rfl rfl ?_ ?_
  · rintro k vs L hk - rfl
    have hg := getD_map (f := aEid) hk
    have h2 := causality_exists ps hs l[k]
    rw [h _ (List.getElem_mem hk)] at h2
    obtain ⟨x1, x2, hx⟩ : ∃ x1 x2, l[k] = (x1, x2) := ⟨_, _, rfl⟩
    rw [hx] at hg h2
    change _ = AV.agg [ai x1, ai x2] at hg
    change PC _ _ [_, .agg [ai x1, ai x2]] _ at h2
    simp only [go_sem]
    repeat (first | ((with_reducible refine AWp.ofC ?_ ?_); (focus exact rfl); simp only [go_sem, hg]) | ((with_reducible refine an ?_ ?_); focus exact Au))
    intro b6
    repeat (first | ((with_reducible refine AWp.ofC ?_ ?_); (focus exact rfl); simp only [go_sem]) | ((with_reducible refine an ?_ ?_); focus exact Au))
    repeat ((with_reducible refine an ?_ ?_); focus exact As)
    refine (h2).val.use ?_; simp only [go_sem]
    repeat (first | ((with_reducible refine AWp.ofC ?_ ?_); (focus exact rfl); simp only [go_sem]) | ((with_reducible refine an ?_ ?_); focus exact Au))
    exact ⟨_, List.Sublist.refl _, rfl⟩
  · rintro vs L - rfl
    simp only [go_sem]
    repeat (first | ((with_reducible refine AWp.ofC ?_ ?_); (focus exact rfl); simp only [go_sem]) | ((with_reducible refine an ?_ ?_); focus exact Au))
    refine ret_eq ?_; simp only [go_sem]
theorem bef_eq {p i q j : Nat} : decide ((((p : Int), (i : Int) + 1) : Eid) ≠ ((q : Int), (j : Int) + 1)) = !(decide ((p : Int) = q) && decide ((i : Int) + 1 = (j : Int) + 1)) := by
  rw [← Bool.decide_and, ← decide_not]
  exact decide_eq_decide.2 ⟨fun h h2 => h (by rw [h2.1, h2.2]), fun h h2 => h (by cases h2; exact ⟨rfl, rfl⟩)⟩
theorem imp_dec {a b : Prop} [Decidable a] [Decidable b] [Decidable (a → ¬ b)] : decide (a → ¬ b) = !(decide a && decide b) := by
  by_cases h1 : a <;> by_cases h2 : b <;> simp [h1, h2]
theorem causality_before (ps : List Pr) (hs : Sm ps) (hv : validF ps = true) (p q i j : Nat) (hp : p < ps.length) (hq : q < ps.length) (hj : j < ps[q].evs.length) :
    PC Go.Proofs.Tryz.prog 81 [kwV ps, aEid ((p : Int), (i : Int) + 1), aEid ((q : Int), (j : Int) + 1)] (ab (befE ps ((p : Int), (i : Int) + 1) ((q : Int), (j : Int) + 1))) := by
  have hpt := causality_past ps hs hv q hq j hj
  have hD := pt_is hv hq hj
  have hb : befE ps ((p : Int), (i : Int) + 1) ((q : Int), (j : Int) + 1) = (!(decide ((p : Int) = q) && decide ((i : Int) + 1 = (j : Int) + 1)) && decide ((i : Int) + 1 ≤ cAt (ptF ps q j) p)) := by
    unfold befE
    rw [ptE_eq, bef_eq]
  rw [hb]
  have hl := (isF_iff.1 hD).1
  generalize ptF ps q j = D at *
  have hpD : p < D.length := by omega
  have g1 := getD_map (f := ai) hpD
  rw [cAt_nat hpD]
  unfold kwV at hpt ⊢
  generalize mapK (evM ps 2 (off ps ps.length)) = k1 at *
  generalize mapV (evM ps 2 (off ps ps.length)) = v1 at *
  generalize mapK (evM ps 3 (off ps ps.length)) = k2 at *
  generalize mapV (evM ps 3 (off ps ps.length)) = v2 at *
  change PC _ _ [_, .agg [ai q, ai ((j : Int) + 1)]] _ at hpt
  change PC _ _ [_, .agg [ai p, ai ((i : Int) + 1)], .agg [ai q, ai ((j : Int) + 1)]] _
  refine PC.enter 22 [.tmp 6] [3, 4, 5] Go.Proofs.Tryz.func81 rfl rfl rfl rfl rfl (by simp) (AWp.of ?_); simp only [go_sem]
  repeat (first | ((with_reducible refine AWp.ofC ?_ ?_); (focus exact rfl); simp only [go_sem]) | ((with_reducible refine an ?_ ?_); focus exact Au))
  repeat (first | (with_reducible refine AWp.seq ?_) | (with_reducible refine AWp.block ?_))
  refine AWp.read mixed [0, 1, 2, 3, 4, 5, 6, 7, 8, 9, 10, 11, 12, 13, 14, 15] (by kernel_rfl) ?_; simp only [go_sem]
  repeat ((with_reducible refine an ?_ ?_); focus exact As)
  refine GCall.use (aInts D) (fun _ => ⟨At, (hpt).val.use ⟨rfl, rfl⟩⟩) ?_; simp only [go_sem, g1]
  repeat (first | ((with_reducible refine AWp.ofC ?_ ?_); (focus exact rfl); simp only [go_sem]) | ((with_reducible refine an ?_ ?_); focus exact Au))
  refine ret_eq ?_; simp only [go_sem]
  rw [imp_dec]
theorem causality_Before (ps : List Pr) (hs : Sm ps) (hv : validF ps = true) (p q i j : Nat) (hp : p < ps.length) (hq : q < ps.length) (hi : i < ps[p].evs.length) (hj : j < ps[q].evs.length) :
    PC Go.Proofs.Tryz.prog 40 [aTr ps, aEid ((p : Int), (i : Int) + 1), aEid ((q : Int), (j : Int) + 1)] (.tup [ab (befE ps ((p : Int), (i : Int) + 1) ((q : Int), (j : Int) + 1)), ai 0]) := by
  have hc := causality_checkOk ps hs hv [((p : Int), (i : Int) + 1), ((q : Int), (j : Int) + 1)] (by simp) (fun x hx => by
    have hE : ∀ (p i : Nat) (hp : p < ps.length), i < ps[p].evs.length → eidOk ps ((p : Int), (i : Int) + 1) = true := fun p i hp hi => by
      unfold eidOk
      have : ((p : Int)).toNat = p := by omega
      simp only [this, nev_get hp, Bool.and_eq_true, decide_eq_true_eq]
      omega
    rcases List.mem_cons.1 hx with rfl | hx
    · exact hE p i hp hi
    · rcases List.mem_cons.1 hx with rfl | hx
      · exact hE q j hq hj
      · cases hx)
  have hk := causality_knows ps hs hv
  have hb := causality_before ps hs hv p q i j hp hq hj
  generalize befE ps ((p : Int), (i : Int) + 1) ((q : Int), (j : Int) + 1) = B at *
  unfold kwV at hk hb
  generalize hK : [AV.sl 3 (ps.map aPr), AV.rm (mapK (evM ps 2 (off ps ps.length))) (mapV (evM ps 2 (off ps ps.length))), AV.rm (mapK (evM ps 3 (off ps ps.length))) (mapV (evM ps 3 (off ps ps.length)))] = K at *
  change PC _ _ [_, .agg [ai p, ai ((i : Int) + 1)], .agg [ai q, ai ((j : Int) + 1)]] _ at hb
  change PC _ _ [_, .sl 2 [.agg [ai p, ai ((i : Int) + 1)], .agg [ai q, ai ((j : Int) + 1)]]] _ at hc
  change PC _ _ [_, .agg [ai p, ai ((i : Int) + 1)], .agg [ai q, ai ((j : Int) + 1)]] _
  refine PC.enter 22 [.tmp 6, .tmp 7] [3, 4, 5, 12] Go.Proofs.Tryz.func40 rfl rfl rfl rfl rfl (by simp) (AWp.of ?_); simp only [go_sem]
  repeat (first | ((with_reducible refine AWp.ofC ?_ ?_); (focus exact rfl); simp only [go_sem]) | ((with_reducible refine an ?_ ?_); focus exact Au))
  repeat ((with_reducible refine an ?_ ?_); focus exact As)
  refine (hc).val.use ?_; simp only [go_sem]
  repeat (first | ((with_reducible refine AWp.ofC ?_ ?_); (focus exact rfl); simp only [go_sem]) | ((with_reducible refine an ?_ ?_); focus exact Au))
  repeat (first | (with_reducible refine AWp.seq ?_) | (with_reducible refine AWp.block ?_))
  refine AWp.read mixed [0, 1, 2, 3, 4, 5, 6] (by kernel_rfl) ?_; simp only [go_sem]
  repeat ((with_reducible refine an ?_ ?_); focus exact As)
  refine GCall.use (.agg K) (fun _ => ⟨At, (hk).val.use ⟨rfl, rfl⟩⟩) ?_; simp only [go_sem]
  repeat ((with_reducible refine an ?_ ?_); focus exact As)
  refine GCall.use (ab B) (fun _ => ⟨At, (hb).val.use ⟨rfl, rfl⟩⟩) ?_; simp only [go_sem]
  repeat (first | ((with_reducible refine AWp.ofC ?_ ?_); (focus exact rfl); simp only [go_sem]) | ((with_reducible refine an ?_ ?_); focus exact Au))
  refine ret_eq ?_; simp only [go_sem]
theorem causality_Concurrent (ps : List Pr) (hs : Sm ps) (hv : validF ps = true) (p q i j : Nat) (hp : p < ps.length) (hq : q < ps.length) (hi : i < ps[p].evs.length) (hj : j < ps[q].evs.length) :
    PC Go.Proofs.Tryz.prog 41 [aTr ps, aEid ((p : Int), (i : Int) + 1), aEid ((q : Int), (j : Int) + 1)] (.tup [ab (concE ps ((p : Int), (i : Int) + 1) ((q : Int), (j : Int) + 1)), ai 0]) := by
  have hc := causality_checkOk ps hs hv [((p : Int), (i : Int) + 1), ((q : Int), (j : Int) + 1)] (by simp) (fun x hx => by
    have hE : ∀ (p i : Nat) (hp : p < ps.length), i < ps[p].evs.length → eidOk ps ((p : Int), (i : Int) + 1) = true := fun p i hp hi => by
      unfold eidOk
      have : ((p : Int)).toNat = p := by omega
      simp only [this, nev_get hp, Bool.and_eq_true, decide_eq_true_eq]
      omega
    rcases List.mem_cons.1 hx with rfl | hx
    · exact hE p i hp hi
    · rcases List.mem_cons.1 hx with rfl | hx
      · exact hE q j hq hj
      · cases hx)
  have hk := causality_knows ps hs hv
  have hb1 := causality_before ps hs hv p q i j hp hq hj
  have hb2 := causality_before ps hs hv q p j i hq hp hi
  have hcc : concE ps ((p : Int), (i : Int) + 1) ((q : Int), (j : Int) + 1) = (!(decide ((p : Int) = q) && decide ((i : Int) + 1 = (j : Int) + 1)) && (!befE ps ((p : Int), (i : Int) + 1) ((q : Int), (j : Int) + 1) && !befE ps ((q : Int), (j : Int) + 1) ((p : Int), (i : Int) + 1))) := by
    unfold concE; rw [bef_eq]
  rw [hcc]
  generalize befE ps ((p : Int), (i : Int) + 1) ((q : Int), (j : Int) + 1) = B1 at *
  generalize befE ps ((q : Int), (j : Int) + 1) ((p : Int), (i : Int) + 1) = B2 at *
  unfold kwV at hk hb1 hb2
  generalize mapK (evM ps 2 (off ps ps.length)) = k1 at *
  generalize mapV (evM ps 2 (off ps ps.length)) = v1 at *
  generalize mapK (evM ps 3 (off ps ps.length)) = k2 at *
  generalize mapV (evM ps 3 (off ps ps.length)) = v2 at *
  change PC _ _ [_, .agg [ai p, ai ((i : Int) + 1)], .agg [ai q, ai ((j : Int) + 1)]] _ at hb1
  change PC _ _ [_, .agg [ai q, ai ((j : Int) + 1)], .agg [ai p, ai ((i : Int) + 1)]] _ at hb2
  change PC _ _ [_, .sl 2 [.agg [ai p, ai ((i : Int) + 1)], .agg [ai q, ai ((j : Int) + 1)]]] _ at hc
  change PC _ _ [_, .agg [ai p, ai ((i : Int) + 1)], .agg [ai q, ai ((j : Int) + 1)]] _
  refine PC.enter 37 [.tmp 6, .tmp 7] [3, 4, 5, 9, 13] Go.Proofs.Tryz.func41 rfl rfl rfl rfl rfl (by simp) (AWp.of ?_); simp only [go_sem]
  repeat (first | ((with_reducible refine AWp.ofC ?_ ?_); (focus exact rfl); simp only [go_sem]) | ((with_reducible refine an ?_ ?_); focus exact Au))
  repeat ((with_reducible refine an ?_ ?_); focus exact As)
  refine (hc).val.use ?_; simp only [go_sem]
  repeat (first | ((with_reducible refine AWp.ofC ?_ ?_); (focus exact rfl); simp only [go_sem]) | ((with_reducible refine an ?_ ?_); focus exact Au))
  repeat ((with_reducible refine an ?_ ?_); focus exact As)
  refine (hk).val.use ?_; simp only [go_sem]
  intro b9
  repeat (first | ((with_reducible refine AWp.ofC ?_ ?_); (focus exact rfl); simp only [go_sem]) | ((with_reducible refine an ?_ ?_); focus exact Au))
  refine GCall.use (ab B1) (fun h => ⟨h, hb1.val.use ⟨rfl, rfl⟩⟩) ?_
  simp only [go_sem]
  refine GCall.use (ab B2) (fun h => ⟨h, hb2.val.use ⟨rfl, rfl⟩⟩) ?_
  simp only [go_sem]
  repeat (first | ((with_reducible refine AWp.ofC ?_ ?_); (focus exact rfl); simp only [go_sem]) | ((with_reducible refine an ?_ ?_); focus exact Au))
  refine ret_eq ?_; simp only [go_sem]
  rw [imp_dec, Bool.and_assoc]
end Go.AL
end
section
/- The law RunOrders: the walk. No condition. -/
namespace Go.AL
open Go Go.RowKit
set_option maxRecDepth 4000
theorem eids_cloneO (l : List Eid) (hl : l.length ≤ 1000000) : MCalls Go.Proofs.Tryz.prog 42 [aEids l] [] fun r L => AppSt 66 2 (l.map aEid) r L := by
  refine MCalls.enter' 8 [.tmp 2] [] Go.Proofs.Tryz.func42 rfl rfl rfl rfl rfl (by simp) (AWp.of ?_); simp only [go_sem]
  repeat (first | ((with_reducible refine AWp.ofC ?_ ?_); (focus exact rfl); simp only [go_sem]) | ((with_reducible refine an ?_ ?_); focus exact Au))
  intro b hb
  repeat (first | ((with_reducible refine AWp.ofC ?_ ?_); (focus exact rfl); simp only [go_sem]) | ((with_reducible refine an ?_ ?_); focus exact Au))
  refine ⟨fun ht => ?_, fun hf => ?_⟩
  · have : l = [] := by
      by_cases h : l = []
      · exact h
      · rw [hb (by simpa using h)] at ht; cases ht
    subst this
    repeat (first | ((with_reducible refine AWp.ofC ?_ ?_); (focus exact rfl); simp only [go_sem]) | ((with_reducible refine an ?_ ?_); focus exact Au))
    refine ret_own ?_
    simp only [go_sem]
    exact .nil
  · repeat (first | ((with_reducible refine AWp.ofC ?_ ?_); (focus exact rfl); simp only [go_sem]) | ((with_reducible refine an ?_ ?_); focus exact Au))
    intros
    repeat ((with_reducible refine an ?_ ?_); focus exact As)
    intros
    repeat (first | ((with_reducible refine AWp.ofC ?_ ?_); (focus exact rfl); simp only [go_sem]) | ((with_reducible refine an ?_ ?_); focus exact Au))
    refine ret_own ?_
    simp only [go_sem]
    have e : l.length = (l.map aEid).length := by simp
    rw [e]; exact .row _ _ _
theorem law24_Ord1 (c d : List Int) (hc : c.length ≤ 1000000) : PC Go.Proofs.Tryz.prog 39 [aInts d, .rp 1 [aInts c] 0 0] (ab (decide (c = d))) := by
  have h1 := ints_equal c d hc
  refine PC.enter 7 [.tmp 3] [] Go.Proofs.Tryz.func39 rfl rfl rfl rfl rfl (by simp) (AWp.of ?_); simp only [go_sem]
  repeat (first | ((with_reducible refine AWp.ofC ?_ ?_); (focus exact rfl); simp only [go_sem]) | ((with_reducible refine an ?_ ?_); focus exact Au))
  repeat ((with_reducible refine an ?_ ?_); focus exact As)
  refine (h1).val.use ?_; simp only [go_sem]
  repeat (first | ((with_reducible refine AWp.ofC ?_ ?_); (focus exact rfl); simp only [go_sem]) | ((with_reducible refine an ?_ ?_); focus exact Au))
  refine ret_eq ?_; simp only [go_sem]
theorem thr_run {ps : List Pr} (hv : validF ps = true) {c : List Int} (hc : isF ps c = true) : ∃ R, wlkF ps (fun d => leqF d c || leqF c d) = zeroC ps :: R ∧ chnF ps (zeroC ps) R = true ∧ (zeroC ps :: R).getLast? = some (fullC ps) ∧ c ∈ zeroC ps :: R ∧ R.length = off ps ps.length := by
  have hzs : (zeroC ps).sum = 0 := by unfold zeroC; simp
  have hfs := fullC_sum ps
  have hfi := fullC_is hv
  have hcs := sum_nonneg c (isF_nonneg hc)
  have hcf := (leq_sum (leq_full hc)).1
  rw [hfs] at hcf
  have hz : leqF (zeroC ps) c = true := (leq_at (by simp [zeroC]) (isF_iff.1 hc).1).2 fun q hq => by
    have h1 := ((inRange_iff (isF_iff.1 hc).1).1 (isF_iff.1 hc).2.1 q hq).1
    have h2 : cAt (zeroC ps) q = 0 := by rw [cAt_nat (show q < (zeroC ps).length by simp [zeroC]; omega)]; simp [zeroC]
    rw [h2]; exact h1
  obtain ⟨R1, hR1, hRl1, -, hlast1⟩ := wlk_to hv hc c.sum.toNat (zeroC ps) (zeroC_is ps) hz (by omega)
  obtain ⟨R2, hR2, hRl2, -, hlast2⟩ := wlk_to hv hfi (off ps ps.length - c.sum.toNat) c hc (leq_full hc) (by omega)
  have h := wlk_thr hv hc (off ps ps.length - c.sum.toNat) c.sum.toNat (zeroC ps) (zeroC_is ps) hz (by omega) R1 hR1
  rw [show c.sum.toNat + (off ps ps.length - c.sum.toNat) = off ps ps.length by omega, hR2] at h
  have h : wlkR ps (fun d => leqF d c || leqF c d) (off ps ps.length) (zeroC ps) = some (R1 ++ R2) := h
  refine ⟨R1 ++ R2, by unfold wlkF; rw [h], (wlk_chn (zeroC_is ps) h).1, ?_, ?_, (wlk_chn (zeroC_is ps) h).2⟩
  · cases R2 with
    | nil =>
      rw [List.append_nil, hlast1]
      have : c = fullC ps := by simpa using hlast2
      rw [this]
    | cons a R2 =>
      rw [List.getLast?_cons_cons] at hlast2
      rw [← List.cons_append, List.getLast?_append, hlast2]; rfl
  · rw [← List.cons_append]
    exact List.mem_append_left _ (List.mem_of_getLast? hlast1)
theorem ev_form {ps : List Pr} {R : List (List Int)} (h : chnF ps (zeroC ps) R = true) {i : Nat} (hi : i < (evtG (zeroC ps) R).length) : ∃ p j : Nat, (evtG (zeroC ps) R)[i] = ((p : Int), (j : Int) + 1) ∧ ∃ hp : p < ps.length, j < ps[p].evs.length := by
  obtain ⟨g1, g2⟩ := chn_get (zeroC_is ps) h
  obtain ⟨p, a1, a2, a3, a4, a5⟩ := g2 i hi (by rw [List.length_cons]; omega)
  obtain ⟨j, b1, b2⟩ := rdy_ev a2 a1 a3
  exact ⟨p, j, by rw [a5, b2], a1, b1⟩
set_option maxHeartbeats 4000000 in
theorem law24_RunOrders (ps : List Pr) (c : List Int) (x : Int) (hev : ∀ p ∈ ps, p.evs.length ≤ 9223372036854775807) (hx : 0 ≤ x ∧ x ≤ 255) : PC Go.Proofs.Tryz.prog 8 [aTr ps, aInts c, .v (.int .u8 x)] (ab true) := by
  have haw := law24_awake
  have hsm := law24_small ps hev 60
  have haR : ∀ x : List (List Int), aRows x = .sl 1 (x.map aInts) := fun _ => rfl
  have haE : ∀ x : List Eid, aEids x = .sl 2 (x.map aEid) := fun _ => rfl
  by_cases hgo : (smF ps 60 = true ∧ c.length ≤ 20) ∧ validF ps = true
  · obtain ⟨⟨hsf, hcl⟩, hv⟩ := hgo
    have hvd := vd_of hsf
    have hs := hvd.sm hv
    have hrv := hvd.rval
    have hci : ¬ (20 : Int) < (c.length : Int) := by omega
    have z0 : ((0 : Nat) : Int) = 0 := rfl
    rw [hsf] at hsm
    rw [hv] at hrv
    have hTh := run_Through ps hs c
    have hof5 := valid_off hv
    cases hc : isF ps c with
    | false =>
      have e3 : thrE ps c = 18 := by unfold thrE; rw [hv, hc]; rfl
      have e4 : thrF ps c = [] := by unfold thrF; rw [e3]; rfl
      rw [e3, e4] at hTh
      rw [haR] at hTh
      refine PC.enter 176 [.tmp 6] [3, 4, 12, 14] Go.Proofs.Tryz.func8 rfl rfl rfl rfl rfl (by simp) (AWp.of ?_); simp only [go_sem]
      repeat (first | ((with_reducible refine AWp.ofC ?_ ?_); (focus exact rfl); simp only [go_sem]) | ((with_reducible refine an ?_ ?_); focus exact Au))
      repeat ((with_reducible refine an ?_ ?_); focus exact As)
      refine (haw).val.use ?_; simp only [go_sem]
      repeat (first | ((with_reducible refine AWp.ofC ?_ ?_); (focus exact rfl); simp only [go_sem]) | ((with_reducible refine an ?_ ?_); focus exact Au))
      repeat ((with_reducible refine an ?_ ?_); focus exact As)
      refine (hsm).val.use ?_; simp only [go_sem, hci]
      repeat ((with_reducible refine an ?_ ?_); focus exact As)
      refine GCall.use (ab true) (fun _ => ⟨At, (hrv).val.use ⟨rfl, rfl⟩⟩) ?_; simp only [go_sem]
      repeat (first | ((with_reducible refine AWp.ofC ?_ ?_); (focus exact rfl); simp only [go_sem]) | ((with_reducible refine an ?_ ?_); focus exact Au))
      repeat ((with_reducible refine an ?_ ?_); focus exact As)
      refine (hTh).val.use ?_; simp only [go_sem]
      repeat (first | ((with_reducible refine AWp.ofC ?_ ?_); (focus exact rfl); simp only [go_sem, Int.reduceEq, z0]) | ((with_reducible refine an ?_ ?_); focus exact Au))
      refine ret_eq ?_; simp only [go_sem]
    | true =>
      have e3 : thrE ps c = 0 := by unfold thrE; rw [hv, hc]; rfl
      have e4 : thrF ps c = wlkF ps (fun d => leqF d c || leqF c d) := by unfold thrF; rw [e3]; rfl
      obtain ⟨R, hW, hch, hlast, hmem, hRl⟩ := thr_run hv hc
      rw [e3, e4, hW] at hTh
      have hrun := isrun_mk hch hlast
      have hWl : (zeroC ps :: R).length = off ps ps.length + 1 := by rw [List.length_cons, hRl]
      have hxw : ∀ x ∈ zeroC ps :: R, x.length ≤ 1000000 := fun x hx => by
        have h8 := (valid_len hv).2
        rcases List.mem_cons.1 hx with rfl | hx
        · simp [zeroC]; omega
        · obtain ⟨j, hj, rfl⟩ := List.getElem_of_mem hx
          have := (isF_iff.1 (chn_iff.1 hch j hj).1).1
          omega
      have hEv := run_Events ps hs (zeroC ps :: R) (by omega) hxw
      have eE : evnE ps (zeroC ps :: R) = 0 := by unfold evnE; rw [hv, hrun]; rfl
      have eF : evnF ps (zeroC ps :: R) = evtG (zeroC ps) R := by unfold evnF; rw [eE]; rfl
      rw [eE, eF] at hEv
      have hIs := run_Is ps hs (zeroC ps :: R) (by omega) hxw
      have eI : isR ps (zeroC ps :: R) = true := by unfold isR; rw [hv, hrun]; rfl
      rw [eI] at hIs
      have hCF := rows_containsFunc (zeroC ps :: R) (by omega) (.clo 39 [.rp 1 [aInts c] 0 0]) rfl (fun d => decide (c = d)) fun d _ => (law24_Ord1 c d (by omega)).clo
      have hany : ((zeroC ps :: R).any fun d => decide (c = d)) = true := List.any_eq_true.2 ⟨c, hmem, decide_eq_true rfl⟩
      rw [hany] at hCF
      have hEl := evtG_len R (zeroC ps)
      have hOf := run_Of ps hs (evtG (zeroC ps) R) (by omega)
      have oF := ofF_evt hrun
      have oF : ofF ps (evtG (zeroC ps) R) = some (zeroC ps :: R) := oF
      have oE : ofVE ps (evtG (zeroC ps) R) = 0 := by unfold ofVE; rw [hv, oF]; rfl
      have oV : ofVF ps (evtG (zeroC ps) R) = zeroC ps :: R := by unfold ofVF; rw [oE, oF]; rfl
      rw [oE, oV] at hOf
      have hSa := ref24_Same (zeroC ps :: R) (zeroC ps :: R) (by omega) hxw
      rw [decide_eq_true rfl] at hSa
      have hfm := fun i hi => ev_form hch (i := i) hi
      have hbf := fun (i j : Nat) (hij : j < i) (hi : i < (evtG (zeroC ps) R).length) => chn_bef hv (zeroC_is ps) hch hij hi
      have hsw := fun (i : Nat) (hi : i + 1 < (evtG (zeroC ps) R).length) => swap_chn hv (zeroC_is ps) hch hi
      have hOf2 := fun (l : List Eid) (hl : l.length ≤ 1000000) => run_Of ps hs l hl
      have hIs2 := fun (r : List (List Int)) h1 h2 => run_Is ps hs r h1 h2
      have hB := fun p q i j hp hq hi hj => causality_Before ps hs hv p q i j hp hq hi hj
      have hCn := fun p q i j hp hq hi hj => causality_Concurrent ps hs hv p q i j hp hq hi hj
      have hCl := eids_cloneO (evtG (zeroC ps) R) (by omega)
      have hwx : IntKind.i64.wrap x = x := IntWalk.i64_in x (by omega)
      have htx := tmod_nat (x := x) (n := (evtG (zeroC ps) R).length - 1) hx.1
      clear eE eF eI hany oE oV
      simp only [haR, haE] at hTh hEv hIs hCF hOf hSa hCl
      generalize hWW : (zeroC ps :: R).map aInts = W at *
      refine PC.enter 176 [.tmp 6] [3, 4, 12, 14] Go.Proofs.Tryz.func8 rfl rfl rfl rfl rfl (by simp) (AWp.of ?_); simp only [go_sem]
      repeat (first | ((with_reducible refine AWp.ofC ?_ ?_); (focus exact rfl); simp only [go_sem]) | ((with_reducible refine an ?_ ?_); focus exact Au))
      repeat ((with_reducible refine an ?_ ?_); focus exact As)
      refine (haw).val.use ?_; simp only [go_sem]
      repeat (first | ((with_reducible refine AWp.ofC ?_ ?_); (focus exact rfl); simp only [go_sem]) | ((with_reducible refine an ?_ ?_); focus exact Au))
      repeat ((with_reducible refine an ?_ ?_); focus exact As)
      refine (hsm).val.use ?_; simp only [go_sem, hci]
      repeat ((with_reducible refine an ?_ ?_); focus exact As)
      refine GCall.use (ab true) (fun _ => ⟨At, (hrv).val.use ⟨rfl, rfl⟩⟩) ?_; simp only [go_sem]
      repeat (first | ((with_reducible refine AWp.ofC ?_ ?_); (focus exact rfl); simp only [go_sem]) | ((with_reducible refine an ?_ ?_); focus exact Au))
      repeat ((with_reducible refine an ?_ ?_); focus exact As)
      refine (hTh).val.use ?_; simp only [go_sem]
      repeat (first | ((with_reducible refine AWp.ofC ?_ ?_); (focus exact rfl); simp only [go_sem]) | ((with_reducible refine an ?_ ?_); focus exact Au))
      repeat ((with_reducible refine an ?_ ?_); focus exact As)
      refine (hEv).val.use ?_; simp only [go_sem]
      repeat (first | ((with_reducible refine AWp.ofC ?_ ?_); (focus exact rfl); simp only [go_sem]) | ((with_reducible refine an ?_ ?_); focus exact Au))
      repeat ((with_reducible refine an ?_ ?_); focus exact As)
      refine GCall.use (ab true) (fun _ => ⟨At, (hIs).val.use ⟨rfl, rfl⟩⟩) ?_; simp only [go_sem]
      repeat ((with_reducible refine an ?_ ?_); focus exact As)
      refine GCall.use (ab true) (fun _ => ⟨At, (hCF).val.use ⟨rfl, rfl⟩⟩) ?_; simp only [go_sem]
      repeat (first | ((with_reducible refine AWp.ofC ?_ ?_); (focus exact rfl); simp only [go_sem]) | ((with_reducible refine an ?_ ?_); focus exact Au))
      repeat ((with_reducible refine an ?_ ?_); focus exact As)
      refine (hOf).val.use ?_; simp only [go_sem]
      repeat (first | ((with_reducible refine AWp.ofC ?_ ?_); (focus exact rfl); simp only [go_sem]) | ((with_reducible refine an ?_ ?_); focus exact Au))
      repeat ((with_reducible refine an ?_ ?_); focus exact As)
      refine GCall.use (ab true) (fun _ => ⟨At, (hSa).val.use ⟨rfl, rfl⟩⟩) ?_; simp only [go_sem]
      repeat (first | ((with_reducible refine AWp.ofC ?_ ?_); (focus exact rfl); simp only [go_sem]) | ((with_reducible refine an ?_ ?_); focus exact Au))
      have hEn : (evtG (zeroC ps) R).length ≤ 512 := by omega
      refine AWp.range' (evtG (zeroC ps) R).length [] [2, 3, 9, 82, 83] (fun k vs L => L = [] ∧ vs = []) (by omega) rfl rfl rfl ⟨rfl, rfl⟩ ?_ ?_
      · rintro k vs L hk - ⟨rfl, rfl⟩
        obtain ⟨p, i, hEk, hp, hi⟩ := hfm k hk
        have hgk := getD_map (f := aEid) hk
        rw [hEk] at hgk
        change _ = AV.agg [ai p, ai ((i : Int) + 1)] at hgk
        have htl : ((evtG (zeroC ps) R).take k).length = k := by rw [List.length_take]; omega
        simp only [go_sem]
        repeat (first | ((with_reducible refine AWp.ofC ?_ ?_); (focus exact rfl); simp only [go_sem, hgk]) | ((with_reducible refine an ?_ ?_); focus exact Au))
        intro b12
        repeat (first | ((with_reducible refine AWp.ofC ?_ ?_); (focus exact rfl); simp only [go_sem, htl]) | ((with_reducible refine an ?_ ?_); focus exact Au))
        refine AWp.range' k [] [2, 3, 9, 12, 82, 83, 84, 91, 92] (fun m vs L => L = [] ∧ vs = []) (by omega) rfl rfl rfl ⟨rfl, rfl⟩ ?_ ?_
        · rintro m vs L hm - ⟨rfl, rfl⟩
          have hmE : m < (evtG (zeroC ps) R).length := by omega
          obtain ⟨q, j, hEm, hq, hj⟩ := hfm m hmE
          have hgm : (((evtG (zeroC ps) R).take k).map aEid).getD m .any = .agg [ai q, ai ((j : Int) + 1)] := by
            rw [getD_map (by omega), List.getElem_take, hEm]; rfl
          have hb := hB p q i j hp hq hi hj
          have h0 := hbf k m hm hk
          rw [hEk, hEm] at h0
          rw [h0] at hb
          change PC _ _ [_, .agg [ai p, ai ((i : Int) + 1)], .agg [ai q, ai ((j : Int) + 1)]] _ at hb
          simp only [go_sem]
          repeat (first | ((with_reducible refine AWp.ofC ?_ ?_); (focus exact rfl); simp only [go_sem, hgm]) | ((with_reducible refine an ?_ ?_); focus exact Au))
          intro b14
          repeat (first | ((with_reducible refine AWp.ofC ?_ ?_); (focus exact rfl); simp only [go_sem]) | ((with_reducible refine an ?_ ?_); focus exact Au))
          repeat ((with_reducible refine an ?_ ?_); focus exact As)
          refine (hb).val.use ?_; simp only [go_sem]
          repeat (first | ((with_reducible refine AWp.ofC ?_ ?_); (focus exact rfl); simp only [go_sem]) | ((with_reducible refine an ?_ ?_); focus exact Au))
          exact ⟨_, List.Sublist.refl _, rfl⟩
        · rintro vs L - ⟨rfl, rfl⟩
          simp only [go_sem]
          exact ⟨_, List.Sublist.refl _, rfl⟩
      · rintro vs L - ⟨rfl, rfl⟩
        by_cases hn2 : (evtG (zeroC ps) R).length < 2
        · have hn2i : ((evtG (zeroC ps) R).length : Int) < 2 := by omega
          simp only [go_sem]
          repeat (first | ((with_reducible refine AWp.ofC ?_ ?_); (focus exact rfl); simp only [go_sem, hn2i]) | ((with_reducible refine an ?_ ?_); focus exact Au))
          refine ret_eq ?_; simp only [go_sem]
        · have hn2i : ¬ ((evtG (zeroC ps) R).length : Int) < 2 := by omega
          have hcast : ((evtG (zeroC ps) R).length : Int) - 1 = (((evtG (zeroC ps) R).length - 1 : Nat) : Int) := by omega
          have hix := Nat.mod_lt x.toNat (show 0 < (evtG (zeroC ps) R).length - 1 by omega)
          obtain ⟨i, hi⟩ : ∃ i, x.toNat % ((evtG (zeroC ps) R).length - 1) = i := ⟨_, rfl⟩
          rw [hi] at hix htx
          have hi1 : i + 1 < (evtG (zeroC ps) R).length := by omega
          have hi0 : i < (evtG (zeroC ps) R).length := by omega
          have hne0 : ¬ (((evtG (zeroC ps) R).length - 1 : Nat) : Int) = 0 := by omega
          obtain ⟨p, a, hEa, hp, ha⟩ := hfm i hi0
          obtain ⟨q, b, hEb, hq, hb⟩ := hfm (i + 1) hi1
          have hga := getD_map (f := aEid) hi0
          have hgb := getD_map (f := aEid) hi1
          rw [hEa] at hga
          rw [hEb] at hgb
          change _ = AV.agg [ai p, ai ((a : Int) + 1)] at hga
          change _ = AV.agg [ai q, ai ((b : Int) + 1)] at hgb
          have hcn := hCn p q a b hp hq ha hb
          have hs2 := hsw i hi1
          rw [hEa, hEb] at hs2
          have hk1 : ((i : Int) + 1).toNat = i + 1 := by omega
          have hsl := swapL_set hi1
          rw [hEa, hEb] at hsl
          have hsll : (swapL (evtG (zeroC ps) R) i).length = (evtG (zeroC ps) R).length := by rw [hsl, List.length_set, List.length_set]
          have hof := hOf2 (swapL (evtG (zeroC ps) R) i) (by omega)
          have hmapS : (((evtG (zeroC ps) R).map aEid).set i (.agg [ai q, ai ((b : Int) + 1)])).set (i + 1) (.agg [ai p, ai ((a : Int) + 1)]) = (swapL (evtG (zeroC ps) R) i).map aEid := by
            rw [hsl, List.map_set, List.map_set]; rfl
          change PC _ _ [_, .agg [ai p, ai ((a : Int) + 1)], .agg [ai q, ai ((b : Int) + 1)]] _ at hcn
          have hofV : ofVE ps (swapL (evtG (zeroC ps) R) i) = if (ofF ps (swapL (evtG (zeroC ps) R) i)).isSome = true then 0 else 11 := by unfold ofVE; rw [hv, if_pos rfl]
          have hofF : ofVF ps (swapL (evtG (zeroC ps) R) i) = if ofVE ps (swapL (evtG (zeroC ps) R) i) = 0 then (ofF ps (swapL (evtG (zeroC ps) R) i)).getD [] else [] := rfl
          have hofD : ∀ o, ofR ps (zeroC ps) (swapL (evtG (zeroC ps) R) i) = o → ofF ps (swapL (evtG (zeroC ps) R) i) = match o with | none => none | some R => if (zeroC ps :: R).getLast? = some (fullC ps) then some (zeroC ps :: R) else none := fun o h => by unfold ofF; rw [h]; cases o <;> rfl
          simp only [go_sem]
          repeat (first | ((with_reducible refine AWp.ofC ?_ ?_); (focus exact rfl); simp only [go_sem, hn2i, hwx, hcast, htx, hne0]) | ((with_reducible refine an ?_ ?_); focus exact Au))
          repeat (first | (with_reducible refine AWp.seq ?_) | (with_reducible refine AWp.block ?_))
          refine AWp.read mixed [0, 1, 2, 3, 4, 5, 6, 7, 8, 9, 10, 11, 12, 13, 14, 15] (by kernel_rfl) ?_; simp only [go_sem, hga, hgb, hk1]
          repeat ((with_reducible refine an ?_ ?_); focus exact As)
          generalize hCC : concE ps ((p : Int), (a : Int) + 1) ((q : Int), (b : Int) + 1) = CC at *
          repeat ((with_reducible refine an ?_ ?_); focus exact As)
          refine GCall.use (.tup [ab CC, ai 0]) (fun _ => ⟨At, (hcn).val.use ⟨rfl, rfl⟩⟩) ?_; simp only [go_sem]
          repeat (first | ((with_reducible refine AWp.ofC ?_ ?_); (focus exact rfl); simp only [go_sem]) | ((with_reducible refine an ?_ ?_); focus exact Au))
          refine hCl.val.mono ?_
          rintro r L hA
          rcases hA.inv with ⟨e1, rfl, rfl⟩ | ⟨bo, cap, rfl, rfl⟩
          · have h := congrArg List.length e1
            rw [List.length_map, List.length_nil] at h
            omega
          simp only [go_sem]
          have hmn : ((evtG (zeroC ps) R).map aEid).length = (evtG (zeroC ps) R).length := List.length_map _
          have hdi : ∀ X : AV, (((evtG (zeroC ps) R).map aEid).set i X).getD (i + 1) .any = .agg [ai q, ai ((b : Int) + 1)] := fun X => by rw [getD_set_ne' (by omega), hgb]
          have hls : ∀ X : AV, (((evtG (zeroC ps) R).map aEid).set i X).length = (evtG (zeroC ps) R).length := fun X => by rw [List.length_set, List.length_map]
          have hre : ofVE ps (swapL (evtG (zeroC ps) R) i) = (if CC = true then 0 else 11) ∧ (CC = true → PC Go.Proofs.Tryz.prog 32 [aTr ps, aRows (ofVF ps (swapL (evtG (zeroC ps) R) i))] (ab true)) ∧ (CC = false → ofVF ps (swapL (evtG (zeroC ps) R) i) = []) := by
            cases CC with
            | true =>
              obtain ⟨R', h1, h2⟩ := hs2.1 rfl
              have hD := hofD _ h1
              simp only at hD
              rw [if_pos (h2.trans hlast)] at hD
              rw [hD] at hofV hofF
              rw [hofV] at hofF ⊢
              refine ⟨rfl, fun _ => ?_, fun h => (by cases h)⟩
              obtain ⟨g1, g2⟩ := ofR_len (zeroC_is ps) h1
              have hr := (ofF_run (ps := ps) hD).1
              have h8 := (valid_len hv).2
              rw [hofF]
              have h := hIs2 (zeroC ps :: R') (by rw [List.length_cons]; omega) fun x hx => by
                rcases List.mem_cons.1 hx with rfl | hx
                · simp [zeroC]; omega
                · rw [g2 x hx]; omega
              have e : isR ps (zeroC ps :: R') = true := by unfold isR; rw [hv, hr]; rfl
              rw [e] at h
              exact h
            | false =>
              have hD := hofD _ (hs2.2 rfl)
              simp only at hD
              rw [hD] at hofV hofF
              rw [hofV] at hofF ⊢
              exact ⟨rfl, fun h => (by cases h), fun _ => hofF⟩
          obtain ⟨hr1, hr2, hr3⟩ := hre
          rw [hr1] at hof
          clear hofV hofF hofD hs2 hsw hfm hbf hCn hB hIs2 hOf2
          generalize ofVF ps (swapL (evtG (zeroC ps) R) i) = V at *
          simp only [haR, haE] at hof hr2
          repeat (first | (with_reducible refine AWp.seq ?_) | (with_reducible refine AWp.block ?_))
          refine AWp.mix mixed [0, 1, 2, 3, 4, 5, 6, 7, 8, 10, 11, 12] (.step 9 (.step 13 (.step 14 (.step 15 (.step 16 (.step 17 .done .done) .done) .done) .done) .done) (.step 13 (.step 9 (.step 14 (.step 15 (.step 16 (.step 17 .done .done) .done) .done) .done) .done) .done)) (by kernel_rfl) ?_; simp only [go_sem, hga, hgb, hk1, hmn, hls, hdi, hmapS]
          repeat' (first | (with_reducible refine And.intro ?_ ?_))
          all_goals first | omega | skip
          all_goals
            refine AWp.view [true] [(19, .sl 2 ((swapL (evtG (zeroC ps) R) i).map aEid))] (LVw.none _) (fun p hp => by
              rw [List.mem_singleton] at hp; subst hp; exact Vw.ofLs (if_pos rfl) (by rw [List.length_map, hsll])) ?_
            simp only [go_sem]
            cases CC with
            | true =>
              rw [if_pos rfl] at hof
              have hr2 := hr2 rfl
              repeat (first | ((with_reducible refine AWp.ofC ?_ ?_); (focus exact rfl); simp only [go_sem]) | ((with_reducible refine an ?_ ?_); focus exact Au))
              repeat ((with_reducible refine an ?_ ?_); focus exact As)
              refine (hof).val.use ?_; simp only [go_sem]
              repeat (first | ((with_reducible refine AWp.ofC ?_ ?_); (focus exact rfl); simp only [go_sem, Int.reduceEq]) | ((with_reducible refine an ?_ ?_); focus exact Au))
              repeat ((with_reducible refine an ?_ ?_); focus exact As)
              refine GCall.use (ab true) (fun _ => ⟨At, (hr2).val.use ⟨rfl, rfl⟩⟩) ?_; simp only [go_sem]
              repeat (first | ((with_reducible refine AWp.ofC ?_ ?_); (focus exact rfl); simp only [go_sem]) | ((with_reducible refine an ?_ ?_); focus exact Au))
              refine ret_eq ?_; simp only [go_sem]
            | false =>
              rw [if_neg (by decide)] at hof
              have hr3 := hr3 rfl
              subst hr3
              repeat (first | ((with_reducible refine AWp.ofC ?_ ?_); (focus exact rfl); simp only [go_sem]) | ((with_reducible refine an ?_ ?_); focus exact Au))
              repeat ((with_reducible refine an ?_ ?_); focus exact As)
              refine (hof).val.use ?_; simp only [go_sem]
              repeat (first | ((with_reducible refine AWp.ofC ?_ ?_); (focus exact rfl); simp only [go_sem, z0]) | ((with_reducible refine an ?_ ?_); focus exact Au))
              refine ret_eq ?_; simp only [go_sem]
  · by_cases hcl : 20 < c.length
    · have hci : (20 : Int) < (c.length : Int) := by omega
      generalize smF ps 60 = sm at *
      refine PC.enter 176 [.tmp 6] [3, 4, 12, 14] Go.Proofs.Tryz.func8 rfl rfl rfl rfl rfl (by simp) (AWp.of ?_); simp only [go_sem]
      repeat (first | ((with_reducible refine AWp.ofC ?_ ?_); (focus exact rfl); simp only [go_sem]) | ((with_reducible refine an ?_ ?_); focus exact Au))
      repeat ((with_reducible refine an ?_ ?_); focus exact As)
      refine (haw).val.use ?_; simp only [go_sem]
      repeat (first | ((with_reducible refine AWp.ofC ?_ ?_); (focus exact rfl); simp only [go_sem]) | ((with_reducible refine an ?_ ?_); focus exact Au))
      repeat ((with_reducible refine an ?_ ?_); focus exact As)
      refine (hsm).val.use ?_; simp only [go_sem, hci]
      refine GCall.use (ab false) (fun h => by simp at h) ?_
      simp only [go_sem]
      repeat (first | ((with_reducible refine AWp.ofC ?_ ?_); (focus exact rfl); simp only [go_sem]) | ((with_reducible refine an ?_ ?_); focus exact Au))
      refine ret_eq ?_; simp only [go_sem]
    · have hci : ¬ (20 : Int) < (c.length : Int) := by omega
      cases hsf : smF ps 60 with
      | false =>
        rw [hsf] at hsm
        refine PC.enter 176 [.tmp 6] [3, 4, 12, 14] Go.Proofs.Tryz.func8 rfl rfl rfl rfl rfl (by simp) (AWp.of ?_); simp only [go_sem]
        repeat (first | ((with_reducible refine AWp.ofC ?_ ?_); (focus exact rfl); simp only [go_sem]) | ((with_reducible refine an ?_ ?_); focus exact Au))
        repeat ((with_reducible refine an ?_ ?_); focus exact As)
        refine (haw).val.use ?_; simp only [go_sem]
        repeat (first | ((with_reducible refine AWp.ofC ?_ ?_); (focus exact rfl); simp only [go_sem]) | ((with_reducible refine an ?_ ?_); focus exact Au))
        repeat ((with_reducible refine an ?_ ?_); focus exact As)
        refine (hsm).val.use ?_; simp only [go_sem, hci]
        refine GCall.use (ab false) (fun h => by simp at h) ?_
        simp only [go_sem]
        repeat (first | ((with_reducible refine AWp.ofC ?_ ?_); (focus exact rfl); simp only [go_sem]) | ((with_reducible refine an ?_ ?_); focus exact Au))
        refine ret_eq ?_; simp only [go_sem]
      | true =>
        rw [hsf] at hsm
        have hrv := (vd_of hsf).rval
        have hv : validF ps = false := by
          cases h : validF ps with
          | false => rfl
          | true => exact absurd ⟨⟨hsf, by omega⟩, h⟩ hgo
        rw [hv] at hrv
        refine PC.enter 176 [.tmp 6] [3, 4, 12, 14] Go.Proofs.Tryz.func8 rfl rfl rfl rfl rfl (by simp) (AWp.of ?_); simp only [go_sem]
        repeat (first | ((with_reducible refine AWp.ofC ?_ ?_); (focus exact rfl); simp only [go_sem]) | ((with_reducible refine an ?_ ?_); focus exact Au))
        repeat ((with_reducible refine an ?_ ?_); focus exact As)
        refine (haw).val.use ?_; simp only [go_sem]
        repeat (first | ((with_reducible refine AWp.ofC ?_ ?_); (focus exact rfl); simp only [go_sem]) | ((with_reducible refine an ?_ ?_); focus exact Au))
        repeat ((with_reducible refine an ?_ ?_); focus exact As)
        refine (hsm).val.use ?_; simp only [go_sem, hci]
        repeat ((with_reducible refine an ?_ ?_); focus exact As)
        refine GCall.use (ab false) (fun _ => ⟨At, (hrv).val.use ⟨rfl, rfl⟩⟩) ?_; simp only [go_sem]
        repeat (first | ((with_reducible refine AWp.ofC ?_ ?_); (focus exact rfl); simp only [go_sem]) | ((with_reducible refine an ?_ ?_); focus exact Au))
        refine ret_eq ?_; simp only [go_sem]
end Go.AL
end
section
/- What is read of arguments that are traces or lists. No condition. -/
namespace Go.AL
open Go Go.RowKit
set_option maxRecDepth 100000
section
variable {H : Type} {enc : TypeId × Value → H} {W : World}
theorem rdInts : Rd enc Go.Proofs.Tryz.prog W 42 1 aInts (fun l => l.length ≤ maxLen) :=
  (Rd.slice Go.Proofs.Tryz.underlying42 (by kernel_rfl : Program.cellsOf Go.Proofs.Tryz.prog 3 = 1) (by decide) (Rd.int Go.Proofs.Tryz.underlying3)).map id (fun _ => rfl) (fun _ h => h.1)
theorem rdAsg : Rd enc Go.Proofs.Tryz.prog W 157 2 aAsg (fun _ => True) :=
  (Rd.struct (ts := [3, 3]) Go.Proofs.Tryz.underlying157 rfl rfl (by kernel_rfl) (by kernel_rfl)
    (.cons (Rd.int Go.Proofs.Tryz.underlying3) (fun _ => ⟨rfl, rfl⟩) (.cons (Rd.int Go.Proofs.Tryz.underlying3) (fun _ => ⟨rfl, rfl⟩) .nil))).map (fun (y : Int × Int × Unit) => (y.1, y.2.1)) (fun _ => rfl) (fun _ _ => trivial)
theorem rdAsgs : Rd enc Go.Proofs.Tryz.prog W 73 1 aAsgs (fun _ => True) :=
  (Rd.slice Go.Proofs.Tryz.underlying73 (by kernel_rfl : Program.cellsOf Go.Proofs.Tryz.prog 157 = 2) (by decide) rdAsg).map id (fun _ => rfl) (fun _ _ => trivial)
theorem rdVar : Rd enc Go.Proofs.Tryz.prog W 155 2 aVar (fun _ => True) :=
  (Rd.struct (ts := [9, 3]) Go.Proofs.Tryz.underlying155 rfl rfl (by kernel_rfl) (by kernel_rfl)
    (.cons (Rd.str Go.Proofs.Tryz.underlying9) (fun _ => ⟨rfl, rfl⟩) (.cons (Rd.int Go.Proofs.Tryz.underlying3) (fun _ => ⟨rfl, rfl⟩) .nil))).map (fun (y : ByteArray × Int × Unit) => (y.1, y.2.1)) (fun _ => rfl) (fun _ _ => trivial)
theorem rdVars : Rd enc Go.Proofs.Tryz.prog W 52 1 aVars (fun _ => True) :=
  (Rd.slice Go.Proofs.Tryz.underlying52 (by kernel_rfl : Program.cellsOf Go.Proofs.Tryz.prog 155 = 2) (by decide) rdVar).map id (fun _ => rfl) (fun _ _ => trivial)
theorem rdEv : Rd enc Go.Proofs.Tryz.prog W 75 5 aEv (fun _ => True) :=
  (Rd.struct (ts := [3, 3, 3, 3, 73]) Go.Proofs.Tryz.underlying75 rfl rfl (by kernel_rfl) (by kernel_rfl)
    (.cons (Rd.int Go.Proofs.Tryz.underlying3) (fun _ => ⟨rfl, rfl⟩) (.cons (Rd.int Go.Proofs.Tryz.underlying3) (fun _ => ⟨rfl, rfl⟩) (.cons (Rd.int Go.Proofs.Tryz.underlying3) (fun _ => ⟨rfl, rfl⟩)
      (.cons (Rd.int Go.Proofs.Tryz.underlying3) (fun _ => ⟨rfl, rfl⟩) (.cons rdAsgs (fun _ => ⟨rfl, rfl⟩) .nil)))))).map (fun (y : Int × Int × Int × Int × List (Int × Int) × Unit) => ⟨y.1, y.2.1, y.2.2.1, y.2.2.2.1, y.2.2.2.2.1⟩) (fun _ => rfl) (fun _ _ => trivial)
end
end Go.AL
end
section
/- A trace is read: the events of its processes are no more than a slice may have. No condition. -/
namespace Go.AL
open Go Go.RowKit
set_option maxRecDepth 100000
section
variable {H : Type} {enc : TypeId × Value → H} {W : World}
theorem rdEvsM : Rd enc Go.Proofs.Tryz.prog W 53 1 aEvs (fun l => l.length ≤ maxLen) :=
  (Rd.slice Go.Proofs.Tryz.underlying53 (by kernel_rfl : Program.cellsOf Go.Proofs.Tryz.prog 75 = 5) (by decide) rdEv).map id (fun _ => rfl) (fun _ h => h.1)
theorem rdPrM : Rd enc Go.Proofs.Tryz.prog W 55 3 aPr (fun p => p.evs.length ≤ maxLen) :=
  (Rd.struct (ts := [9, 52, 53]) Go.Proofs.Tryz.underlying55 rfl rfl (by kernel_rfl) (by kernel_rfl)
    (.cons (Rd.str Go.Proofs.Tryz.underlying9) (fun _ => ⟨rfl, rfl⟩) (.cons rdVars (fun _ => ⟨rfl, rfl⟩) (.cons rdEvsM (fun _ => ⟨rfl, rfl⟩) .nil)))).map (fun (y : ByteArray × List (ByteArray × Int) × List Ev × Unit) => ⟨y.1, y.2.1, y.2.2.1⟩) (fun _ => rfl) (fun _ h => h.2.2.1)
theorem rdPrsM : Rd enc Go.Proofs.Tryz.prog W 22 1 aPrs (fun l => l.length ≤ maxLen ∧ ∀ p ∈ l, p.evs.length ≤ 9223372036854775807) :=
  (Rd.slice Go.Proofs.Tryz.underlying22 (by kernel_rfl : Program.cellsOf Go.Proofs.Tryz.prog 55 = 3) (by decide) rdPrM).map id (fun _ => rfl) (fun _ h => h)
theorem rdTrM : Rd enc Go.Proofs.Tryz.prog W 24 1 aTr (fun l => l.length ≤ maxLen ∧ ∀ p ∈ l, p.evs.length ≤ 9223372036854775807) :=
  (Rd.struct (ts := [22]) Go.Proofs.Tryz.underlying24 rfl rfl (by kernel_rfl) (by kernel_rfl) (.cons rdPrsM (fun _ => ⟨rfl, rfl⟩) .nil)).map (fun (y : List Pr × Unit) => y.1) (fun _ => rfl) (fun _ h => h.1)
end
end Go.AL
end
section
/- A trace is read: its processes are no more than a slice may have. No condition. -/
namespace Go.AL
open Go Go.RowKit
set_option maxRecDepth 100000
section
variable {H : Type} {enc : TypeId × Value → H} {W : World}
end
end Go.AL
end
section
/- Events' names are read; a byte. No condition. -/
namespace Go.AL
open Go Go.RowKit
set_option maxRecDepth 100000
section
variable {H : Type} {enc : TypeId × Value → H} {W : World}
theorem Rd.u8 {P : Program} {t : TypeId} (ht : P.underlying t = some (.int .u8)) : Rd enc P W t 1 (fun n : Int => .v (.int .u8 n)) (fun n => 0 ≤ n ∧ n ≤ 255) := by
  intro fuel cs x h
  obtain ⟨n, rfl, _, hw⟩ := DataW.trod_int ht h
  have hb : IntKind.u8.min ≤ n ∧ n ≤ IntKind.u8.max := by
    unfold Lit.wf at hw
    rwa [Bool.and_eq_true, decide_eq_true_eq, decide_eq_true_eq] at hw
  refine ⟨n, ⟨Int.le_trans (by decide) hb.1, Int.le_trans hb.2 (by decide)⟩, ⟨rfl, rfl⟩, rfl, fun i c u h1 h2 => ?_⟩
  cases i with
  | zero => cases h1; cases h2; exact .v _
  | succ i => cases h2
theorem rdU8 : Rd enc Go.Proofs.Tryz.prog W 5 1 (fun n : Int => .v (.int .u8 n)) (fun n => 0 ≤ n ∧ n ≤ 255) := Rd.u8 Go.Proofs.Tryz.underlying5
end
end Go.AL
end
