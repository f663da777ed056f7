/- Texts of this claim's proof: WU14, WRt4, WRt6. No condition. -/
import Derived.Test.YtmnabhohlflkkaaGreatM15
import Derived.Test.YtmnabhohlflkkaaGreatM10
section
/- The law RunBarriers: the walk. No condition. -/
namespace Go.AL
open Go Go.RowKit
set_option maxRecDepth 4000
theorem MCalls.pc {P : Program} {f : FuncId} {args : List AV} {K : AV → AHeap → Prop} {r0 : AV} (h : MCalls P f args [] K) (hk : ∀ r L, K r L → Vw L r r0) : PC P f args r0 :=
  ⟨h.1, fun n w A vs h1 h2 => (h.2 n w A vs h1 h2).mono fun e w' hp => by
    obtain ⟨v, r, L', A', e1, hK, hf, hA, hL, hkk, hr⟩ := hp
    refine ⟨v, r0, [], fun b => A' b ∨ keysOf L' b, e1, ⟨rfl, rfl⟩, hf, fun b hb => ?_, hL.viewed (Lf := L') (Lk := []) (by simp) .nil, fun x hx => absurd hx (by simp), hL.view (Lf := L') (Lk := []) (by simp) (hk r L' hK) hr⟩
    rcases hb with hb | ⟨x, hx, rfl⟩
    · exact hA b hb
    · rcases hkk x hx with h | h
      · exact .inr (.inl h)
      · exact .inr (.inr h)⟩
theorem rows_concatP (ls : List (List (List Int))) (hl : ls.length ≤ 100000000) (hf : ls.flatten.length ≤ 1000000) : PC Go.Proofs.Tryz.prog 28 [.sl 1 (ls.map aRows)] (aRows ls.flatten) := by
  refine (rows_concat ls hl hf).pc fun r L h => ?_
  have haR : aRows ls.flatten = .sl 1 (ls.flatten.map aInts) := rfl
  rw [haR]
  rcases h with ⟨h1, rfl, rfl⟩ | ⟨b, cap, xs, rfl, rfl, h1, h2⟩
  · rw [h1]; exact .nil 1
  · rw [List.take_length] at h1 h2 ⊢
    refine .ls (if_pos rfl) (by omega) ?_ ?_
    · rw [List.drop_zero, h2]
    · rw [List.drop_zero, h2]
      intro i x y hx hy
      rw [hx] at hy; cases hy; exact .refl _
theorem lev_le {ps : List Pr} (_hv : validF ps = true) {k : Nat} (hk : k ≤ off ps ps.length) : (levF ps k).length ≤ (cutsF ps).length := by
  have h1 := cumF_mono (ps := ps) (j := k + 1) (k := off ps ps.length + 1) (by omega)
  rw [cumF_succ, List.length_append] at h1
  have h2 : cutsF ps = cumF ps (off ps ps.length + 1) := rfl
  rw [h2]; omega
theorem lev_ne {ps : List Pr} (hv : validF ps = true) {k : Nat} (hk : k ≤ off ps ps.length) : ∃ c, isF ps c = true ∧ c.sum = k := by
  induction k with
  | zero => exact ⟨zeroC ps, zeroC_is ps, by simp [zeroC]⟩
  | succ k ih =>
    obtain ⟨c, hc, hs⟩ := ih (by omega)
    obtain ⟨p, hp, _, hF, _⟩ := first_to hv hc (fullC_is hv) (leq_full hc) (by rw [fullC_sum]; omega)
    have := firstP_some hp
    exact ⟨stpC c p, hF, by rw [sum_stpC this.1, hs]; omega⟩
theorem avE_ok {ps : List Pr} (hv : validF ps = true) (h0 : lstE ps = 0) {l : List (List Int)} (hl : l.length ≤ 5000) (h : ∀ c ∈ l, isF ps c = true) : avE ps l = 0 := by
  unfold avE
  rw [hv, if_pos rfl, if_neg (by omega), if_neg, h0]
  rw [Bool.not_eq_true, List.any_eq_false]
  intro c hc
  rw [h c hc]; simp
theorem law24_Bar1 (c d : List Int) (hc : c.length ≤ 1000000) : PC Go.Proofs.Tryz.prog 30 [aInts d, .rp 1 [aInts c] 0 0] (ab (decide (c = d))) := by
  have h1 := ints_equal c d hc
  refine PC.enter 7 [.tmp 3] [] Go.Proofs.Tryz.func30 rfl rfl rfl rfl rfl (by simp) (AWp.of ?_); simp only [go_sem]
  repeat (first | ((with_reducible refine AWp.ofC ?_ ?_); (focus exact rfl); simp only [go_sem]) | ((with_reducible refine an ?_ ?_); focus exact Au))
  repeat ((with_reducible refine an ?_ ?_); focus exact As)
  refine (h1).val.use ?_; simp only [go_sem]
  repeat (first | ((with_reducible refine AWp.ofC ?_ ?_); (focus exact rfl); simp only [go_sem]) | ((with_reducible refine an ?_ ?_); focus exact Au))
  refine ret_eq ?_; simp only [go_sem]
/-- What the walk asks of the plain side. -/
structure Bar (ps : List Pr) (l : List (List Int)) (k : Nat) : Prop where
  ne : 0 < (levF ps k).length
  le : (levF ps k).length ≤ 5000
  b1 : PC Go.Proofs.Tryz.prog 17 [aTr ps, aRows (levF ps k)] (.tup [ab true, ai 0])
  b2 : ∀ j, j < (levF ps k).length → PC Go.Proofs.Tryz.prog 17 [aTr ps, aRows ((levF ps k).take j ++ (levF ps k).drop (j + 1))] (.tup [ab false, ai 0])
theorem bar_of {ps : List Pr} (hs : Sm ps) (hv : validF ps = true) (h0 : lstE ps = 0) (l : List (List Int)) {k : Nat} (hk : k ≤ off ps ps.length) : Bar ps l k := by
  have h5 := (lst_zero.1 h0).2
  have hle := lev_le hv hk
  have hm := mem_levF hv k
  have hnd := level_nodup hv k
  obtain ⟨c0, hc0, hs0⟩ := lev_ne hv hk
  have hne : 0 < (levF ps k).length := List.length_pos_iff.2 fun h => by
    have := (hm c0).2 ⟨hc0, hs0⟩
    rw [h] at this; cases this
  have hz : (zeroC ps).sum = 0 := by simp [zeroC]
  refine ⟨hne, by omega, ?_, fun j hj => ?_⟩
  · have h1 := run_Blocked ps hs (levF ps k)
    have e1 := avE_ok hv h0 (l := levF ps k) (by omega) fun c hc => ((hm c).1 hc).1
    have e2 : blkB ps (levF ps k) = true := by
      unfold blkB
      rw [e1, opn_level (bad := badB (levF ps k)) (k := k) (by omega) (fun d hd hds => decide_eq_true ((hm d).2 ⟨hd, hds⟩)) k (zeroC_is ps) (by omega)]; rfl
    rw [e1, e2] at h1
    exact h1
  · have hmem := fun c => without_mem hnd hj (c := c)
    have h1 := run_Blocked ps hs ((levF ps k).take j ++ (levF ps k).drop (j + 1))
    have hlen : ((levF ps k).take j ++ (levF ps k).drop (j + 1)).length ≤ 5000 := by rw [List.length_append, List.length_take, List.length_drop]; omega
    have e1 := avE_ok hv h0 hlen fun c hc => ((hm c).1 ((hmem c).1 hc).1).1
    have hto := (hm _).1 (List.getElem_mem hj)
    have e2 : blkB ps ((levF ps k).take j ++ (levF ps k).drop (j + 1)) = false := by
      unfold blkB
      rw [e1, opn_but (bad := badB ((levF ps k).take j ++ (levF ps k).drop (j + 1))) hv hto.1 (decide_eq_false fun h => ((hmem _).1 h).2 rfl) (fun d hd hds => decide_eq_false fun h => hds (((hm d).1 ((hmem d).1 h).1).2.trans hto.2.symm)) (off ps ps.length) (zeroC_is ps) (by omega)
        (.inl ((leq_at (by simp [zeroC]) (isF_iff.1 hto.1).1).2 fun q hq => by
          have h1 := ((inRange_iff (isF_iff.1 hto.1).1).1 (isF_iff.1 hto.1).2.1 q hq).1
          have h2 : cAt (zeroC ps) q = 0 := by rw [cAt_nat (show q < (zeroC ps).length by simp [zeroC]; omega)]; simp [zeroC]
          rw [h2]; exact h1))]
      simp
    rw [e1, e2] at h1
    exact h1
set_option maxHeartbeats 4000000 in
theorem law24_RunBarriers (ps : List Pr) (l : List (List Int)) (x y : Int) (hev : ∀ p ∈ ps, p.evs.length ≤ 9223372036854775807) (hx : 0 ≤ x ∧ x ≤ 255) (hy : 0 ≤ y ∧ y ≤ 255) : PC Go.Proofs.Tryz.prog 6 [aTr ps, aRows l, .v (.int .u8 x), .v (.int .u8 y)] (ab true) := by
  have haw := law24_awake
  have hsm := law24_small ps hev 30
  have hsh := law24_short l
  have haR : ∀ x : List (List Int), aRows x = .sl 1 (x.map aInts) := fun _ => rfl
  by_cases hgo : (smF ps 30 = true ∧ shortF l = true) ∧ validF ps = true
  · obtain ⟨⟨hsf, hsht⟩, hv⟩ := hgo
    have hvd := vd_of hsf
    have hs := hvd.sm hv
    have hrv := hvd.rval
    rw [hsf] at hsm
    rw [hsht] at hsh
    rw [hv] at hrv
    obtain ⟨hr1, hr2⟩ := shortF_spec hsht
    have hof5 := valid_off hv
    obtain ⟨hl1, hl8⟩ := valid_len hv
    have hwx : IntKind.i64.wrap x = x := IntWalk.i64_in x (by omega)
    have hwy : IntKind.i64.wrap y = y := IntWalk.i64_in y (by omega)
    have htx := tmod_nat (x := x) (n := off ps ps.length + 1) hx.1
    have hkx := Nat.mod_lt x.toNat (show 0 < off ps ps.length + 1 by omega)
    obtain ⟨k, hk⟩ : ∃ k, x.toNat % (off ps ps.length + 1) = k := ⟨_, rfl⟩
    rw [hk] at htx hkx
    have hLv := cuts_Level ps hs k
    have haL : aLevel ps k = if lstE ps = 0 then .tup [aRows (levF ps k), ai 0] else .tup [aRows [], ai (lstE ps)] := by
      unfold aLevel
      rw [hv, if_pos rfl, if_neg (by omega)]
      split <;> rfl
    rw [haL] at hLv
    simp only [haR] at hsh hLv ⊢
    refine PC.enter 175 [.tmp 8] [4, 11, 24, 97] Go.Proofs.Tryz.func6 rfl rfl rfl rfl rfl (by simp) (AWp.of ?_); simp only [go_sem]
    repeat (first | ((with_reducible refine AWp.ofC ?_ ?_); (focus exact rfl); simp only [go_sem]) | ((with_reducible refine an ?_ ?_); focus exact Au))
    repeat ((with_reducible refine an ?_ ?_); focus exact As)
    refine (haw).val.use ?_; simp only [go_sem]
    repeat (first | ((with_reducible refine AWp.ofC ?_ ?_); (focus exact rfl); simp only [go_sem]) | ((with_reducible refine an ?_ ?_); focus exact Au))
    repeat ((with_reducible refine an ?_ ?_); focus exact As)
    refine (hsm).val.use ?_; simp only [go_sem]
    repeat ((with_reducible refine an ?_ ?_); focus exact As)
    refine GCall.use (ab true) (fun _ => ⟨At, (hsh).val.use ⟨rfl, rfl⟩⟩) ?_; simp only [go_sem]
    repeat ((with_reducible refine an ?_ ?_); focus exact As)
    repeat ((with_reducible refine an ?_ ?_); focus exact As)
    refine GCall.use (ab true) (fun _ => ⟨At, (hrv).val.use ⟨rfl, rfl⟩⟩) ?_; simp only [go_sem]
    repeat ((with_reducible refine an ?_ ?_); focus exact As)
    repeat (first | ((with_reducible refine AWp.ofC ?_ ?_); (focus exact rfl); simp only [go_sem]) | ((with_reducible refine an ?_ ?_); focus exact Au))
    refine AWp.range' ps.length [9] [1, 2, 3, 4, 41, 42] (fun k vs L => L = [] ∧ vs = [ai (off ps k : Nat)]) (by omega) rfl rfl rfl ⟨rfl, by simp [off]; rfl⟩ ?_ ?_
    · rintro q vs L hq - ⟨rfl, rfl⟩
      have hgp := getD_map (f := aPr) hq
      have hof := off_succ hq
      have hos := off_small hs q (by omega)
      have hel := hs.evs _ (List.getElem_mem hq)
      simp only [go_sem]
      repeat (first | ((with_reducible refine AWp.ofC ?_ ?_); (focus exact rfl); simp only [go_sem, hgp]) | ((with_reducible refine an ?_ ?_); focus exact Au))
      intro b11
      repeat (first | ((with_reducible refine AWp.ofC ?_ ?_); (focus exact rfl); simp only [go_sem]) | ((with_reducible refine an ?_ ?_); focus exact Au))
      exact ⟨_, List.Sublist.refl _, rfl, by rw [hof, Int.natCast_add]⟩
    · rintro vs L - ⟨rfl, rfl⟩
      have hcast : ((off ps ps.length : Nat) : Int) + 1 = ((off ps ps.length + 1 : Nat) : Int) := by omega
      by_cases hE0 : lstE ps = 0
      · rw [if_pos hE0] at hLv
        obtain ⟨hne, hle, hb1, hb2⟩ := bar_of hs hv hE0 l (k := k) (by omega)
        have hty := tmod_nat (x := y) (n := (levF ps k).length) hy.1
        have hj := Nat.mod_lt y.toNat hne
        generalize y.toNat % (levF ps k).length = j at *
        have hb2 := hb2 j hj
        have hcc := rows_concatP [(levF ps k).take j, (levF ps k).drop (j + 1)] (by simp) (by simp; omega)
        rw [show [(levF ps k).take j, (levF ps k).drop (j + 1)].flatten = (levF ps k).take j ++ (levF ps k).drop (j + 1) by simp] at hcc
        have hAv := run_Avoid ps hs l
        have hBl := run_Blocked ps hs l
        have hn0 : ¬ ((levF ps k).length : Int) = 0 := by omega
        have hj1 : ((j : Int) + 1).toNat = j + 1 := by omega
        generalize levF ps k = lv at *
        simp only [haR] at hb1 hb2 hcc hAv hBl hLv
        simp only [go_sem]
        repeat (first | (with_reducible refine AWp.seq ?_) | (with_reducible refine AWp.block ?_))
        refine AWp.read mixed [0, 1, 2, 3, 4, 5, 6, 7, 8, 9, 10, 11] (by kernel_rfl) ?_; simp only [go_sem, hwx, hcast, htx]
        repeat ((with_reducible refine an ?_ ?_); focus exact As)
        refine GCall.use (.tup [.sl 1 (lv.map aInts), ai 0]) (fun _ => ⟨At, (hLv).val.use ⟨rfl, rfl⟩⟩) ?_; simp only [go_sem]
        repeat (first | ((with_reducible refine AWp.ofC ?_ ?_); (focus exact rfl); simp only [go_sem, hn0]) | ((with_reducible refine an ?_ ?_); focus exact Au))
        repeat ((with_reducible refine an ?_ ?_); focus exact As)
        refine (hb1).val.use ?_; simp only [go_sem]
        repeat (first | ((with_reducible refine AWp.ofC ?_ ?_); (focus exact rfl); simp only [go_sem, hwy, hty, hn0]) | ((with_reducible refine an ?_ ?_); focus exact Au))
        repeat (first | (with_reducible refine AWp.seq ?_) | (with_reducible refine AWp.block ?_))
        refine AWp.mix mixed [0, 1, 2, 3, 4, 5, 6, 7, 8, 9, 10, 11, 12, 13, 14, 15] .done (by kernel_rfl) ?_; simp only [go_sem, hj1]
        repeat ((with_reducible refine an ?_ ?_); focus exact As)
        refine GCall.use (.sl 1 ((lv.take j ++ lv.drop (j + 1)).map aInts)) (fun _ => ⟨At, (hcc).val.use ⟨rfl, rfl⟩⟩) ?_; simp only [go_sem]
        repeat ((with_reducible refine an ?_ ?_); focus exact As)
        repeat ((with_reducible refine an ?_ ?_); focus exact As)
        refine GCall.use (.tup [ab false, ai 0]) (fun _ => ⟨At, (hb2).val.use ⟨rfl, rfl⟩⟩) ?_; simp only [go_sem]
        repeat (first | ((with_reducible refine AWp.ofC ?_ ?_); (focus exact rfl); simp only [go_sem]) | ((with_reducible refine an ?_ ?_); focus exact Au))
        have z0 : ((0 : Nat) : Int) = 0 := rfl
        have hE : avE ps l = if (l.any fun c => !isF ps c) = true then 18 else 0 := by unfold avE; rw [hv, if_pos rfl, if_neg (by omega), hE0]
        have hdE : avdE ps l = if avE ps l = 0 then (if opnV ps (badB l) (zeroC ps) = true then 0 else 7) else avE ps l := rfl
        have hdF : avdF ps l = if avdE ps l = 0 then wlkF ps (opnV ps (badB l)) else [] := rfl
        have hbB : blkB ps l = (decide (avE ps l = 0) && !opnV ps (badB l) (zeroC ps)) := rfl
        cases hbad : (l.any fun c => !isF ps c) with
        | true =>
          rw [hbad, if_pos rfl] at hE
          rw [hE] at hdE hbB hBl
          rw [if_neg (by decide)] at hdE
          rw [hdE] at hdF hAv
          rw [if_neg (by decide)] at hdF
          rw [hdF] at hAv
          rw [hbB] at hBl
          change PC _ _ _ (.tup [ab false, ai 18]) at hBl
          repeat ((with_reducible refine an ?_ ?_); focus exact As)
          refine (hAv).val.use ?_; simp only [go_sem]
          repeat (first | ((with_reducible refine AWp.ofC ?_ ?_); (focus exact rfl); simp only [go_sem]) | ((with_reducible refine an ?_ ?_); focus exact Au))
          repeat ((with_reducible refine an ?_ ?_); focus exact As)
          refine (hBl).val.use ?_; simp only [go_sem]
          repeat (first | ((with_reducible refine AWp.ofC ?_ ?_); (focus exact rfl); simp only [go_sem, Int.reduceEq, z0]) | ((with_reducible refine an ?_ ?_); focus exact Au))
          refine ret_eq ?_; simp only [go_sem]
        | false =>
          rw [hbad, if_neg (by decide)] at hE
          rw [hE] at hdE hbB hBl
          rw [if_pos rfl] at hdE
          rw [decide_eq_true rfl, Bool.true_and] at hbB
          rw [hbB] at hBl
          cases hop : opnV ps (badB l) (zeroC ps) with
          | false =>
            rw [hop] at hdE hBl
            rw [if_neg (by decide)] at hdE
            rw [hdE] at hdF hAv
            rw [if_neg (by decide)] at hdF
            rw [hdF] at hAv
            rw [Bool.not_false] at hBl
            repeat ((with_reducible refine an ?_ ?_); focus exact As)
            refine (hAv).val.use ?_; simp only [go_sem]
            repeat (first | ((with_reducible refine AWp.ofC ?_ ?_); (focus exact rfl); simp only [go_sem]) | ((with_reducible refine an ?_ ?_); focus exact Au))
            repeat ((with_reducible refine an ?_ ?_); focus exact As)
            refine (hBl).val.use ?_; simp only [go_sem]
            repeat (first | ((with_reducible refine AWp.ofC ?_ ?_); (focus exact rfl); simp only [go_sem, z0]) | ((with_reducible refine an ?_ ?_); focus exact Au))
            refine ret_eq ?_; simp only [go_sem]
          | true =>
            rw [hop] at hdE hBl
            rw [if_pos rfl] at hdE
            rw [hdE] at hdF hAv
            rw [if_pos rfl] at hdF
            rw [hdF] at hAv
            rw [Bool.not_true] at hBl
            have hzs : (zeroC ps).sum = 0 := by simp [zeroC]
            obtain ⟨R, hR, hRl, hRm, hRt⟩ := opn_walk (off ps ps.length) (zeroC_is ps) hop (by omega)
            have hwk : wlkF ps (opnV ps (badB l)) = zeroC ps :: R := by unfold wlkF; rw [hR]
            have hch := (wlk_chn (zeroC_is ps) hR).1
            have hrun := isrun_mk hch hRt
            have hmem : ∀ c ∈ zeroC ps :: R, isF ps c = true ∧ badB l c = false := fun c hc => by
              rcases List.mem_cons.1 hc with rfl | hc
              · exact ⟨zeroC_is ps, opn_bad (zeroC_is ps) hop⟩
              · obtain ⟨g1, g2⟩ := hRm c hc
                exact ⟨g1, opn_bad g1 g2⟩
            rw [hwk] at hAv
            have hWl : (zeroC ps :: R).length = off ps ps.length + 1 := by rw [List.length_cons, hRl]
            have hIs := run_Is ps hs (zeroC ps :: R) (by omega) fun c hc => by have := (isF_iff.1 (hmem c hc).1).1; omega
            have hisR : isR ps (zeroC ps :: R) = true := by unfold isR; rw [hv, hrun]; rfl
            rw [hisR, haR] at hIs
            clear hR hch hrun hRm hRt hwk hRl
            generalize zeroC ps :: R = W at *
            have hCo := cut_Consistent ps hs
            have hCF := fun c hc => rows_containsFunc l (by omega) (.clo 30 [.rp 1 [aInts c] 0 0]) rfl (fun d => decide (c = d)) fun d _ => (law24_Bar1 c d hc).clo
            simp only [haR] at hCF
            repeat ((with_reducible refine an ?_ ?_); focus exact As)
            refine (hAv).val.use ?_; simp only [go_sem]
            repeat (first | ((with_reducible refine AWp.ofC ?_ ?_); (focus exact rfl); simp only [go_sem]) | ((with_reducible refine an ?_ ?_); focus exact Au))
            repeat ((with_reducible refine an ?_ ?_); focus exact As)
            refine (hBl).val.use ?_; simp only [go_sem]
            repeat (first | ((with_reducible refine AWp.ofC ?_ ?_); (focus exact rfl); simp only [go_sem, Int.reduceEq]) | ((with_reducible refine an ?_ ?_); focus exact Au))
            refine AWp.range' W.length [] [1, 4, 9, 19, 21, 22, 141, 142] (fun k vs L => L = [] ∧ vs = []) (by omega) rfl rfl rfl ⟨rfl, rfl⟩ ?_ ?_
            · rintro q vs L hq - ⟨rfl, rfl⟩
              have hgq := getD_map (f := aInts) hq
              obtain ⟨m1, m2⟩ := hmem _ (List.getElem_mem hq)
              have hCo := hCo W[q]
              rw [decide_eq_true ((isF_given hv).2 m1)] at hCo
              have hln := (isF_iff.1 m1).1
              have hCF := hCF W[q] (by omega)
              have han : (l.any fun d => decide (W[q] = d)) = false := by
                rw [List.any_eq_false]
                intro d hd h
                have := of_decide_eq_true h
                subst this
                exact absurd hd (of_decide_eq_false m2)
              rw [han] at hCF
              generalize W[q] = c at *
              simp only [go_sem]
              repeat (first | ((with_reducible refine AWp.ofC ?_ ?_); (focus exact rfl); simp only [go_sem, hgq]) | ((with_reducible refine an ?_ ?_); focus exact Au))
              intro b24
              repeat (first | ((with_reducible refine AWp.ofC ?_ ?_); (focus exact rfl); simp only [go_sem]) | ((with_reducible refine an ?_ ?_); focus exact Au))
              repeat ((with_reducible refine an ?_ ?_); focus exact As)
              refine (hCo).val.use ?_; simp only [go_sem]
              repeat ((with_reducible refine an ?_ ?_); focus exact As)
              refine GCall.use (ab false) (fun _ => ⟨At, (hCF).val.use ⟨rfl, rfl⟩⟩) ?_; simp only [go_sem]
              repeat (first | ((with_reducible refine AWp.ofC ?_ ?_); (focus exact rfl); simp only [go_sem]) | ((with_reducible refine an ?_ ?_); focus exact Au))
              exact ⟨_, List.Sublist.refl _, rfl⟩
            · rintro vs L - ⟨rfl, rfl⟩
              have hWi : (W.length : Int) = (off ps ps.length : Int) + 1 := by omega
              simp only [go_sem]
              repeat (first | ((with_reducible refine AWp.ofC ?_ ?_); (focus exact rfl); simp only [go_sem]) | ((with_reducible refine an ?_ ?_); focus exact Au))
              repeat ((with_reducible refine an ?_ ?_); focus exact As)
              refine GCall.use (ab true) (fun _ => ⟨At, (hIs).val.use ⟨rfl, rfl⟩⟩) ?_; simp only [go_sem]
              repeat (first | ((with_reducible refine AWp.ofC ?_ ?_); (focus exact rfl); simp only [go_sem, hWi]) | ((with_reducible refine an ?_ ?_); focus exact Au))
              refine ret_eq ?_; simp only [go_sem]
      · rw [if_neg hE0] at hLv
        simp only [go_sem]
        repeat (first | (with_reducible refine AWp.seq ?_) | (with_reducible refine AWp.block ?_))
        refine AWp.read mixed [0, 1, 2, 3, 4, 5, 6, 7, 8, 9, 10, 11] (by kernel_rfl) ?_; simp only [go_sem, hwx, hcast, htx]
        repeat ((with_reducible refine an ?_ ?_); focus exact As)
        refine GCall.use (.tup [.sl 1 [], ai (lstE ps)]) (fun _ => ⟨At, (hLv).val.use ⟨rfl, rfl⟩⟩) ?_; simp only [go_sem]
        repeat (first | ((with_reducible refine AWp.ofC ?_ ?_); (focus exact rfl); simp only [go_sem, hE0]) | ((with_reducible refine an ?_ ?_); focus exact Au))
        refine ret_eq ?_; simp only [go_sem]
        rfl
  · rw [haR] at *
    cases hsf : smF ps 30 with
    | false =>
      rw [hsf] at hsm
      generalize shortF l = sh at *
      refine PC.enter 175 [.tmp 8] [4, 11, 24, 97] Go.Proofs.Tryz.func6 rfl rfl rfl rfl rfl (by simp) (AWp.of ?_); simp only [go_sem]
      repeat (first | ((with_reducible refine AWp.ofC ?_ ?_); (focus exact rfl); simp only [go_sem]) | ((with_reducible refine an ?_ ?_); focus exact Au))
      repeat ((with_reducible refine an ?_ ?_); focus exact As)
      refine (haw).val.use ?_; simp only [go_sem]
      repeat (first | ((with_reducible refine AWp.ofC ?_ ?_); (focus exact rfl); simp only [go_sem]) | ((with_reducible refine an ?_ ?_); focus exact Au))
      repeat ((with_reducible refine an ?_ ?_); focus exact As)
      refine (hsm).val.use ?_; simp only [go_sem]
      repeat ((with_reducible refine an ?_ ?_); focus exact As)
      refine GCall.use (ab sh) (fun _ => ⟨At, (hsh).val.use ⟨rfl, rfl⟩⟩) ?_; simp only [go_sem]
      refine GCall.use (ab false) (fun h => by simp at h) ?_
      simp only [go_sem]
      repeat (first | ((with_reducible refine AWp.ofC ?_ ?_); (focus exact rfl); simp only [go_sem]) | ((with_reducible refine an ?_ ?_); focus exact Au))
      refine ret_eq ?_; simp only [go_sem]
    | true =>
      rw [hsf] at hsm
      have hvd := vd_of hsf
      have hrv := hvd.rval
      cases hsht : shortF l with
      | false =>
        rw [hsht] at hsh
        refine PC.enter 175 [.tmp 8] [4, 11, 24, 97] Go.Proofs.Tryz.func6 rfl rfl rfl rfl rfl (by simp) (AWp.of ?_); simp only [go_sem]
        repeat (first | ((with_reducible refine AWp.ofC ?_ ?_); (focus exact rfl); simp only [go_sem]) | ((with_reducible refine an ?_ ?_); focus exact Au))
        repeat ((with_reducible refine an ?_ ?_); focus exact As)
        refine (haw).val.use ?_; simp only [go_sem]
        repeat (first | ((with_reducible refine AWp.ofC ?_ ?_); (focus exact rfl); simp only [go_sem]) | ((with_reducible refine an ?_ ?_); focus exact Au))
        repeat ((with_reducible refine an ?_ ?_); focus exact As)
        refine (hsm).val.use ?_; simp only [go_sem]
        repeat ((with_reducible refine an ?_ ?_); focus exact As)
        refine GCall.use (ab false) (fun _ => ⟨At, (hsh).val.use ⟨rfl, rfl⟩⟩) ?_; simp only [go_sem]
        repeat ((with_reducible refine an ?_ ?_); focus exact As)
        refine GCall.use (ab false) (fun h => by simp at h) ?_
        simp only [go_sem]
        repeat (first | ((with_reducible refine AWp.ofC ?_ ?_); (focus exact rfl); simp only [go_sem]) | ((with_reducible refine an ?_ ?_); focus exact Au))
        refine ret_eq ?_; simp only [go_sem]
      | true =>
        rw [hsht] at hsh
        have hv : validF ps = false := by
          cases h : validF ps with
          | false => rfl
          | true => exact absurd ⟨⟨hsf, hsht⟩, h⟩ hgo
        rw [hv] at hrv
        refine PC.enter 175 [.tmp 8] [4, 11, 24, 97] Go.Proofs.Tryz.func6 rfl rfl rfl rfl rfl (by simp) (AWp.of ?_); simp only [go_sem]
        repeat (first | ((with_reducible refine AWp.ofC ?_ ?_); (focus exact rfl); simp only [go_sem]) | ((with_reducible refine an ?_ ?_); focus exact Au))
        repeat ((with_reducible refine an ?_ ?_); focus exact As)
        refine (haw).val.use ?_; simp only [go_sem]
        repeat (first | ((with_reducible refine AWp.ofC ?_ ?_); (focus exact rfl); simp only [go_sem]) | ((with_reducible refine an ?_ ?_); focus exact Au))
        repeat ((with_reducible refine an ?_ ?_); focus exact As)
        refine (hsm).val.use ?_; simp only [go_sem]
        repeat ((with_reducible refine an ?_ ?_); focus exact As)
        refine GCall.use (ab true) (fun _ => ⟨At, (hsh).val.use ⟨rfl, rfl⟩⟩) ?_; simp only [go_sem]
        repeat ((with_reducible refine an ?_ ?_); focus exact As)
        repeat ((with_reducible refine an ?_ ?_); focus exact As)
        refine GCall.use (ab false) (fun _ => ⟨At, (hrv).val.use ⟨rfl, rfl⟩⟩) ?_; simp only [go_sem]
        repeat (first | ((with_reducible refine AWp.ofC ?_ ?_); (focus exact rfl); simp only [go_sem]) | ((with_reducible refine an ?_ ?_); focus exact Au))
        refine ret_eq ?_; simp only [go_sem]
end Go.AL
end
section
/- A trace is read: its processes are no more than a slice may have. No condition. -/
namespace Go.AL
open Go Go.RowKit
set_option maxRecDepth 100000
section
variable {H : Type} {enc : TypeId × Value → H} {W : World}
end
end Go.AL
end
section
/- Events' names are read; a byte. No condition. -/
namespace Go.AL
open Go Go.RowKit
set_option maxRecDepth 100000
section
variable {H : Type} {enc : TypeId × Value → H} {W : World}
theorem Rd.u8 {P : Program} {t : TypeId} (ht : P.underlying t = some (.int .u8)) : Rd enc P W t 1 (fun n : Int => .v (.int .u8 n)) (fun n => 0 ≤ n ∧ n ≤ 255) := by
  intro fuel cs x h
  obtain ⟨n, rfl, _, hw⟩ := DataW.trod_int ht h
  have hb : IntKind.u8.min ≤ n ∧ n ≤ IntKind.u8.max := by
    unfold Lit.wf at hw
    rwa [Bool.and_eq_true, decide_eq_true_eq, decide_eq_true_eq] at hw
  refine ⟨n, ⟨Int.le_trans (by decide) hb.1, Int.le_trans hb.2 (by decide)⟩, ⟨rfl, rfl⟩, rfl, fun i c u h1 h2 => ?_⟩
  cases i with
  | zero => cases h1; cases h2; exact .v _
  | succ i => cases h2
theorem rdU8 : Rd enc Go.Proofs.Tryz.prog W 5 1 (fun n : Int => .v (.int .u8 n)) (fun n => 0 ≤ n ∧ n ≤ 255) := Rd.u8 Go.Proofs.Tryz.underlying5
end
end Go.AL
end
