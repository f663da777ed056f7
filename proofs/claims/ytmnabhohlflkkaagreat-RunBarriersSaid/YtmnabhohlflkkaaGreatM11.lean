/- Texts of this claim's proof: WQg, WQh, WQi, WNe, WOa, WQd. No condition. -/
import Derived.Test.YtmnabhohlflkkaaGreatM10
import Derived.Test.YtmnabhohlflkkaaGreatM8
section
/- The package run: zero, full, may, next, indices. No condition. -/
namespace Go.AL
open Go Go.RowKit
set_option maxRecDepth 4000
theorem needs_len (ps : List Pr) : (aNeeds ps ps).length = ps.length := List.length_map _
theorem run_zero (ps : List Pr) (hv : validF ps = true) : PC Go.Proofs.Tryz.prog 52 [aRs ps] (aInts (zeroC ps)) := by
  have hl := needs_len ps
  have hl8 := (valid_len hv).2
  unfold aRs
  refine PC.enter 9 [.tmp 2] [] Go.Proofs.Tryz.func52 rfl rfl rfl rfl rfl (by simp) (AWp.of ?_); simp only [go_sem]
  repeat (first | ((with_reducible refine AWp.ofC ?_ ?_); (focus exact rfl); simp only [go_sem, hl]) | ((with_reducible refine an ?_ ?_); focus exact Au))
  repeat ((with_reducible refine an ?_ ?_); focus exact As)
  intro b8
  repeat (first | ((with_reducible refine AWp.ofC ?_ ?_); (focus exact rfl); simp only [go_sem]) | ((with_reducible refine an ?_ ?_); focus exact Au))
  refine ret_view [true] ?_; simp only [go_sem]
  have e : (zeroC ps).map ai = List.replicate ps.length (ai 0) := by unfold zeroC; rw [List.map_replicate]
  show Vw _ _ (.sl 1 ((zeroC ps).map ai))
  rw [e]
  exact Vw.ofLs (if_pos rfl) (by simp)
theorem run_zeroO (ps : List Pr) (hv : validF ps = true) : MCalls Go.Proofs.Tryz.prog 52 [aRs ps] [] fun r L => ∃ b, r = .ls b 1 0 ps.length ps.length ∧ L = [(b, .row 3 1 ((zeroC ps).map ai) ps.length)] := by
  have hl := needs_len ps
  have hl8 := (valid_len hv).2
  unfold aRs
  refine MCalls.enter' 9 [.tmp 2] [] Go.Proofs.Tryz.func52 rfl rfl rfl rfl rfl (by simp) (AWp.of ?_); simp only [go_sem]
  repeat (first | ((with_reducible refine AWp.ofC ?_ ?_); (focus exact rfl); simp only [go_sem, hl]) | ((with_reducible refine an ?_ ?_); focus exact Au))
  repeat ((with_reducible refine an ?_ ?_); focus exact As)
  intro b8
  repeat (first | ((with_reducible refine AWp.ofC ?_ ?_); (focus exact rfl); simp only [go_sem]) | ((with_reducible refine an ?_ ?_); focus exact Au))
  refine ret_own ?_
  simp only [go_sem]
  have e : (zeroC ps).map ai = List.replicate ps.length (ai 0) := by unfold zeroC; rw [List.map_replicate]
  rw [e]
  exact ⟨b8, rfl, rfl⟩
def fulT (ps : List Pr) (k : Nat) : List Int := (List.range ps.length).map fun p => if p < k then (nev ps p : Int) else 0
theorem fulT_zero (ps : List Pr) : fulT ps 0 = zeroC ps := by
  unfold fulT zeroC
  exact List.eq_replicate_iff.2 ⟨by simp, fun x hx => by
    obtain ⟨p, _, rfl⟩ := List.mem_map.1 hx
    exact if_neg (by omega)⟩
theorem fulT_len (ps : List Pr) (k : Nat) : (fulT ps k).length = ps.length := by simp [fulT]
theorem fulT_succ (ps : List Pr) {k : Nat} (hk : k < ps.length) : fulT ps (k + 1) = (fulT ps k).set k (ps[k].evs.length : Int) := by
  apply List.ext_getElem (by rw [List.length_set, fulT_len, fulT_len])
  intro i h1 h2
  rw [List.getElem_set]
  simp only [fulT, List.getElem_map, List.getElem_range]
  by_cases e : k = i
  · subst e; rw [if_pos (by omega), if_pos rfl, nev_get hk]
  · rw [if_neg e]
    by_cases h : i < k
    · rw [if_pos h, if_pos (by omega)]
    · rw [if_neg h, if_neg (by omega)]
theorem fulT_full (ps : List Pr) : fulT ps ps.length = fullC ps := by
  apply List.ext_getElem (by rw [fulT_len]; simp [fullC])
  intro i h1 h2
  have hi : i < ps.length := by rw [fulT_len] at h1; exact h1
  simp only [fulT, fullC, List.getElem_map, List.getElem_range]
  rw [if_pos hi, nev_get hi]
theorem run_full (ps : List Pr) (hs : Sm ps) (hv : validF ps = true) : PC Go.Proofs.Tryz.prog 49 [aRs ps] (aInts (fullC ps)) := by
  have hl := needs_len ps
  have hl8 := (valid_len hv).2
  have hz := run_zeroO ps hv
  unfold aRs at hz ⊢
  refine PC.enter 25 [.tmp 2] [] Go.Proofs.Tryz.func49 rfl rfl rfl rfl rfl (by simp) (AWp.of ?_); simp only [go_sem]
  repeat (first | ((with_reducible refine AWp.ofC ?_ ?_); (focus exact rfl); simp only [go_sem]) | ((with_reducible refine an ?_ ?_); focus exact Au))
  refine hz.val.mono ?_
  rintro r L ⟨b, rfl, rfl⟩
  simp only [go_sem]
  repeat (first | ((with_reducible refine AWp.ofC ?_ ?_); (focus exact rfl); simp only [go_sem, hl]) | ((with_reducible refine an ?_ ?_); focus exact Au))
  refine AWp.range' ps.length [] [3, 11, 12] (fun k vs L => vs = [] ∧ L = [(b, .row 3 1 ((fulT ps k).map ai) ps.length)]) (by omega) rfl rfl rfl ⟨rfl, by rw [fulT_zero]⟩ ?_ ?_
  · rintro k vs L hk - ⟨rfl, rfl⟩
    have hel := hs.evs _ (List.getElem_mem hk)
    have g3 : (aNeeds ps ps).getD k .any = aEids (ps[k].evs.map (needE ps)) := getD_map (f := fun x : Pr => aEids (x.evs.map (needE ps))) hk
    have g5 : ((ps[k].evs.map (needE ps)).map aEid).length = ps[k].evs.length := by rw [List.length_map, List.length_map]
    have hfl := fulT_len ps k
    simp only [go_sem]
    have g7 := getD_map (f := ai) (l := fulT ps k) (k := k) (by omega)
    repeat (first | ((with_reducible refine AWp.ofC ?_ ?_); (focus exact rfl); simp only [go_sem, g3, g5, hfl, g7]) | ((with_reducible refine an ?_ ?_); focus exact Au))
    exact ⟨_, List.Sublist.refl _, by rw [fulT_succ ps hk, List.map_set]⟩
  · rintro vs L - ⟨rfl, rfl⟩
    rw [fulT_full]
    simp only [go_sem]
    repeat (first | ((with_reducible refine AWp.ofC ?_ ?_); (focus exact rfl); simp only [go_sem]) | ((with_reducible refine an ?_ ?_); focus exact Au))
    refine ret_view [true] ?_; simp only [go_sem]
    exact Vw.ofLs (if_pos rfl) (by simp [fullC])
def mayF (ps : List Pr) (c : List Int) (p : Int) : Bool := decide (0 ≤ p ∧ p < ps.length) && rdyF ps c p.toNat
theorem run_may (ps : List Pr) (hs : Sm ps) (hv : validF ps = true) (c : List Int) (hc : isF ps c = true) (p : Int) : PC Go.Proofs.Tryz.prog 50 [aRs ps, aInts c, ai p] (ab (mayF ps c p)) := by
  obtain ⟨h1, h2, h3⟩ := isF_iff.1 hc
  have hnl := needs_len ps
  have hl1 := (valid_len hv).1
  by_cases hp0 : p < 0
  · have e0 : p.toNat = 0 := by omega
    have g1 := getD_map (f := ai) (l := c) (k := 0) (by omega)
    have g3 : (aNeeds ps ps).getD 0 .any = aEids (ps[0].evs.map (needE ps)) := getD_map (f := fun x : Pr => aEids (x.evs.map (needE ps))) (by omega)
    have hm : mayF ps c p = false := by unfold mayF; rw [decide_eq_false (by omega)]; rfl
    rw [hm]
    unfold aRs
    refine PC.enter 57 [.tmp 6] [7] Go.Proofs.Tryz.func50 rfl rfl rfl rfl rfl (by simp) (AWp.of ?_); simp only [go_sem]
    repeat (first | ((with_reducible refine AWp.ofC ?_ ?_); (focus exact rfl); simp only [go_sem, hp0]) | ((with_reducible refine an ?_ ?_); focus exact Au))
    refine AWp.seq (AWp.seq ?_)
    repeat (first | (with_reducible refine AWp.seq ?_) | (with_reducible refine AWp.block ?_))
    refine AWp.read mixed [0, 1, 2, 3, 4, 5, 6, 7, 8, 9, 10, 11, 12, 13, 14, 15, 16, 17, 18, 19, 20, 21, 22] (by kernel_rfl) ?_; simp only [go_sem, hp0, e0, g1, g3, hnl]
    repeat ((with_reducible refine an ?_ ?_); focus exact As)
    repeat (first | ((with_reducible refine AWp.ofC ?_ ?_); (focus exact rfl); simp only [go_sem]) | ((with_reducible refine an ?_ ?_); focus exact Au))
    refine ret_eq ?_; simp only [go_sem]
  · by_cases hpl : p < ps.length
    · obtain ⟨q, rfl⟩ : ∃ q : Nat, p = q := ⟨p.toNat, by omega⟩
      have hp : q < ps.length := by omega
      have hr := (inRange_iff h1).1 h2 q hp
      obtain ⟨i, hci⟩ : ∃ i : Nat, cAt c q = i := ⟨(cAt c q).toNat, by omega⟩
      have hpc : q < c.length := by omega
      have hcp : c[q] = (i : Int) := by rw [← cAt_nat hpc]; exact hci
      have hel := hs.evs _ (List.getElem_mem hp)
      have g1 : (c.map ai).getD q .any = ai i := by rw [getD_map hpc, hcp]
      have g3 : (aNeeds ps ps).getD q .any = aEids (ps[q].evs.map (needE ps)) := getD_map (f := fun x : Pr => aEids (x.evs.map (needE ps))) hp
      have g5 : ((ps[q].evs.map (needE ps)).map aEid).length = ps[q].evs.length := by rw [List.length_map, List.length_map]
      have z0 : ¬ (q : Int) < 0 := by omega
      have z1 : ¬ (c.length : Int) ≤ (q : Int) := by omega
      have hrd : mayF ps c q = (decide (i < ps[q].evs.length) && isF ps (stpC c q)) := by
        unfold mayF rdyF
        rw [decide_eq_true ⟨by omega, by omega⟩, Bool.true_and]
        have e2 : ((q : Int)).toNat = q := by omega
        rw [e2, hci, nev_get hp, Bool.decide_and, Bool.decide_eq_true]; congr 1; congr 1; exact propext ⟨fun h => by omega, fun h => by omega⟩
      rw [hrd]
      unfold aRs
      refine PC.enter 57 [.tmp 6] [7] Go.Proofs.Tryz.func50 rfl rfl rfl rfl rfl (by simp) (AWp.of ?_); simp only [go_sem]
      repeat (first | ((with_reducible refine AWp.ofC ?_ ?_); (focus exact rfl); simp only [go_sem, z0, z1, g1, g3, hnl]) | ((with_reducible refine an ?_ ?_); focus exact Au))
      refine AWp.seq (AWp.seq ?_)
      repeat (first | (with_reducible refine AWp.seq ?_) | (with_reducible refine AWp.block ?_))
      refine AWp.read mixed [0, 1, 2, 3, 4, 5, 6, 7, 8, 9, 10, 11, 12, 13, 14, 15, 16, 17, 18, 19, 20, 21, 22] (by kernel_rfl) ?_; simp only [go_sem, z0, z1, g1, g3, g5, hnl]
      repeat ((with_reducible refine an ?_ ?_); focus exact As)
      repeat (first | ((with_reducible refine AWp.ofC ?_ ?_); (focus exact rfl); simp only [go_sem]) | ((with_reducible refine an ?_ ?_); focus exact Au))
      refine ⟨fun h => ?_, fun h => ?_⟩
      · have : (decide (i < ps[q].evs.length) && isF ps (stpC c q)) = false := by rw [decide_eq_false (by omega)]; rfl
        rw [this]
        repeat (first | ((with_reducible refine AWp.ofC ?_ ?_); (focus exact rfl); simp only [go_sem]) | ((with_reducible refine an ?_ ?_); focus exact Au))
        refine ret_eq ?_; simp only [go_sem]
      · have hi : i < ps[q].evs.length := by omega
        have hst := stp_iff hv hc hp hi hci
        have hin := need_in hv hp hi
        have g4 : ((ps[q].evs.map (needE ps)).map aEid).getD i .any = aEid (needE ps ps[q].evs[i]) := by rw [List.map_map]; exact getD_map (f := fun e => aEid (needE ps e)) hi
        have e1 : decide (i < ps[q].evs.length) = true := decide_eq_true hi
        have e2 : isF ps (stpC c q) = decide ((needE ps ps[q].evs[i]).2 ≤ cAt c (needE ps ps[q].evs[i]).1) := by
          by_cases hb : isF ps (stpC c q) = true
          · rw [hb]; exact (decide_eq_true (hst.1 hb)).symm
          · rw [Bool.not_eq_true] at hb
            rw [hb]; exact (decide_eq_false fun h => by rw [hst.2 h] at hb; cases hb).symm
        have h0n : 0 ≤ cAt c (needE ps ps[q].evs[i]).1 := by
          have h5 := (inRange_iff h1).1 h2 (needE ps ps[q].evs[i]).1.toNat (by omega)
          rw [Int.toNat_of_nonneg hin.1] at h5
          exact h5.1
        rw [e1, e2, Bool.true_and]
        generalize needE ps ps[q].evs[i] = ne at *
        obtain ⟨n1, n2⟩ := ne
        have g6 := getD_cAt (c := c) hin.1 (by omega)
        dsimp only at hin h0n
        repeat (first | ((with_reducible refine AWp.ofC ?_ ?_); (focus exact rfl); simp only [go_sem]) | ((with_reducible refine an ?_ ?_); focus exact Au))
        refine AWp.seq ?_
        repeat (first | (with_reducible refine AWp.seq ?_) | (with_reducible refine AWp.block ?_))
        refine AWp.mix mixed [0, 1, 2, 3, 4, 5, 6, 7, 8, 9, 10, 11, 12] (.step 13 (.step 14 .done .done) .done) (by kernel_rfl) ?_; simp only [go_sem, g1, g3, g4, g5, hnl]
        repeat ((with_reducible refine an ?_ ?_); focus exact As)
        intro b7
        refine AWp.seq ?_
        repeat (first | (with_reducible refine AWp.seq ?_) | (with_reducible refine AWp.block ?_))
        refine AWp.read mixed [0, 1, 2, 3, 4, 5, 6, 7, 8, 9, 10, 11, 12, 13] (by kernel_rfl) ?_; simp only [go_sem, g6]
        repeat ((with_reducible refine an ?_ ?_); focus exact As)
        have hor : (decide (n2 = 0) || decide (n2 ≤ cAt c n1)) = decide (n2 ≤ cAt c n1) := by
          by_cases hz : n2 = 0
          · rw [hz, decide_eq_true h0n]; rfl
          · rw [decide_eq_false hz, Bool.false_or]
        repeat (first | ((with_reducible refine AWp.ofC ?_ ?_); (focus exact rfl); simp only [go_sem, hor]) | ((with_reducible refine an ?_ ?_); focus exact Au))
        refine ret_eq ?_; simp only [go_sem]
    · have g1 : (c.map ai).getD p.toNat .any = .any := by
        rw [List.getD_eq_getElem?_getD, List.getElem?_eq_none (by rw [List.length_map]; omega)]; rfl
      have g3 : (aNeeds ps ps).getD p.toNat .any = .any := by
        rw [List.getD_eq_getElem?_getD, List.getElem?_eq_none (by rw [hnl]; omega)]; rfl
      have z1 : (c.length : Int) ≤ p := by omega
      have hm : mayF ps c p = false := by unfold mayF; rw [decide_eq_false (by omega)]; rfl
      rw [hm]
      unfold aRs
      refine PC.enter 57 [.tmp 6] [7] Go.Proofs.Tryz.func50 rfl rfl rfl rfl rfl (by simp) (AWp.of ?_); simp only [go_sem]
      repeat (first | ((with_reducible refine AWp.ofC ?_ ?_); (focus exact rfl); simp only [go_sem, hp0]) | ((with_reducible refine an ?_ ?_); focus exact Au))
      refine AWp.seq (AWp.seq ?_)
      repeat (first | (with_reducible refine AWp.seq ?_) | (with_reducible refine AWp.block ?_))
      refine AWp.read mixed [0, 1, 2, 3, 4, 5, 6, 7, 8, 9, 10, 11, 12, 13, 14, 15, 16, 17, 18, 19, 20, 21, 22] (by kernel_rfl) ?_; simp only [go_sem, hp0, z1, g1, g3, hnl]
      repeat ((with_reducible refine an ?_ ?_); focus exact As)
      repeat (first | ((with_reducible refine AWp.ofC ?_ ?_); (focus exact rfl); simp only [go_sem]) | ((with_reducible refine an ?_ ?_); focus exact Au))
      refine ret_eq ?_; simp only [go_sem]
theorem run_next (c : List Int) (hc : c.length ≤ 1000000) (hb : ∀ z ∈ c, 0 ≤ z ∧ z ≤ 1000000) (p : Nat) (hp : p < c.length) : PC Go.Proofs.Tryz.prog 51 [aInts c, ai (p : Nat)] (aInts (stpC c p)) := by
  have hcl := ints_cloneO c hc
  have hcp := cAt_nat hp
  have hz := hb _ (List.getElem_mem hp)
  have g1 := getD_map (f := ai) hp
  refine PC.enter 15 [.tmp 4] [] Go.Proofs.Tryz.func51 rfl rfl rfl rfl rfl (by simp) (AWp.of ?_); simp only [go_sem]
  repeat (first | ((with_reducible refine AWp.ofC ?_ ?_); (focus exact rfl); simp only [go_sem]) | ((with_reducible refine an ?_ ?_); focus exact Au))
  refine hcl.val.mono ?_
  rintro r L hA
  rcases hA.inv with ⟨e1, rfl, rfl⟩ | ⟨b, cap, rfl, rfl⟩
  · have := congrArg List.length e1
    rw [List.length_map] at this
    have : c.length = 0 := this
    omega
  · simp only [go_sem]
    repeat (first | ((with_reducible refine AWp.ofC ?_ ?_); (focus exact rfl); simp only [go_sem, g1]) | ((with_reducible refine an ?_ ?_); focus exact Au))
    refine ret_view [true] ?_; simp only [go_sem]
    have e : (c.map ai).set p (ai (c[p] + 1)) = (stpC c p).map ai := by unfold stpC; rw [List.map_set, hcp]
    show Vw [(b, .row 3 1 ((c.map ai).set p (ai (c[p] + 1))) cap)] _ (.sl 1 ((stpC c p).map ai))
    rw [e]
    exact Vw.ofLs (if_pos rfl) (by rw [List.length_map, stp_len])
end Go.AL
end
section
/- The package run: the text of a cut. No condition. -/
namespace Go.AL
open Go Go.RowKit
set_option maxRecDepth 4000
def k8 (z : Int) : Int := IntKind.u8.wrap z
def keyS (c : List Int) : ByteArray := bytesS (c.map k8)
theorem run_key (c : List Int) (hc : c.length ≤ 1000000) : PC Go.Proofs.Tryz.prog 48 [aInts c] (.v (.string (keyS c))) := by
  refine PC.enter 23 [.tmp 2] [18] Go.Proofs.Tryz.func48 rfl rfl rfl rfl rfl (by simp) (AWp.of ?_); simp only [go_sem]
  repeat (first | ((with_reducible refine AWp.ofC ?_ ?_); (focus exact rfl); simp only [go_sem]) | ((with_reducible refine an ?_ ?_); focus exact Au))
  repeat ((with_reducible refine an ?_ ?_); focus exact As)
  intro b8
  repeat (first | ((with_reducible refine AWp.ofC ?_ ?_); (focus exact rfl); simp only [go_sem]) | ((with_reducible refine an ?_ ?_); focus exact Au))
  refine AWp.range' c.length [3] [9, 10] (fun k vs L => ∃ b cap ys, vs = [.ls b 1 0 k cap] ∧ L = [(b, .row 5 1 ys cap)] ∧ k ≤ ys.length ∧ ys.take k = ((c.map k8).map a8).take k) (by omega) rfl rfl rfl ⟨_, _, _, rfl, rfl, Nat.zero_le _, rfl⟩ ?_ ?_
  · rintro k vs L hk - ⟨b, cap, ys, rfl, rfl, hy1, hy2⟩
    have hg := getD_map (f := ai) hk
    simp only [go_sem]
    repeat (first | ((with_reducible refine AWp.ofC ?_ ?_); (focus exact rfl); simp only [go_sem, hg]) | ((with_reducible refine an ?_ ?_); focus exact Au))
    intro b' cap' hc'
    refine ⟨_, List.Sublist.refl _, b', cap', _, rfl, rfl, ?_, ?_⟩
    · rw [List.length_append, List.length_take]; simp only [List.length_cons, List.length_nil]; omega
    · have e : ((c.take (k + 1)).map k8).map a8 = ((c.take k).map k8).map a8 ++ [.v (.int .u8 (IntKind.u8.wrap c[k]))] := by
        rw [List.take_succ_eq_append_getElem hk, List.map_append, List.map_append]; rfl
      rw [e, List.take_of_length_le (by rw [List.length_append, List.length_take]; simp only [List.length_cons, List.length_nil]; omega)]
      rw [← List.map_take, ← List.map_take] at hy2
      rw [hy2]
  · rintro vs L - ⟨b, cap, ys, rfl, rfl, hy1, hy2⟩
    have hy3 : ys.take c.length = (c.map k8).map a8 := by
      rw [hy2]; exact List.take_of_length_le (by simp)
    simp only [go_sem]
    repeat (first | ((with_reducible refine AWp.ofC ?_ ?_); (focus exact rfl); simp only [go_sem, hy3, bytesOf_map]) | ((with_reducible refine an ?_ ?_); focus exact Au))
    refine ret_eq ?_; simp only [go_sem]
    rfl
theorem bytesS_eq (l : List Int) : bytesS l = ⟨(l.map fun n => UInt8.ofNat n.toNat).toArray⟩ := by
  unfold bytesS
  have : ∀ (l : List Int) (r : ByteArray), l.foldl (fun r n => r.push (UInt8.ofNat n.toNat)) r = ⟨r.data ++ (l.map fun n => UInt8.ofNat n.toNat).toArray⟩ := fun l => by
    induction l with
    | nil => intro r; simp
    | cons n l ih => intro r; rw [List.foldl_cons, ih]; simp [ByteArray.push]
  rw [this]
  have h0 : ByteArray.empty.data = #[] := rfl
  rw [h0]; simp
theorem keyS_inj {c d : List Int} (hc : ∀ z ∈ c, 0 ≤ z ∧ z ≤ 255) (hd : ∀ z ∈ d, 0 ≤ z ∧ z ≤ 255) (h : keyS c = keyS d) : c = d := by
  unfold keyS at h
  rw [bytesS_eq, bytesS_eq] at h
  have h1 : (c.map k8).map (fun n => UInt8.ofNat n.toNat) = (d.map k8).map (fun n => UInt8.ofNat n.toNat) := by
    have := congrArg (fun b => b.data.toList) h
    simpa using this
  have e : ∀ l : List Int, (∀ z ∈ l, 0 ≤ z ∧ z ≤ 255) → l.map k8 = l := fun l hl => by
    refine (List.map_congr_left fun z hz => ?_).trans (List.map_id _)
    exact IntWalk.u8_in z (hl z hz)
  rw [e c hc, e d hd] at h1
  apply List.ext_getElem (by have := congrArg List.length h1; rw [List.length_map, List.length_map] at this; exact this)
  intro i g1 g2
  have h2 := List.getElem_of_eq h1 (i := i) (by rw [List.length_map]; exact g1)
  rw [List.getElem_map, List.getElem_map] at h2
  have a1 := hc _ (List.getElem_mem g1)
  have a2 := hd _ (List.getElem_mem g2)
  have h3 := congrArg UInt8.toNat h2
  rw [UInt8.toNat_ofNat', UInt8.toNat_ofNat'] at h3
  omega
theorem isF_byte {ps : List Pr} (hv : validF ps = true) {c : List Int} (hc : isF ps c = true) : ∀ z ∈ c, 0 ≤ z ∧ z ≤ 255 := fun z hz => by
  obtain ⟨h1, h2, _⟩ := isF_iff.1 hc
  obtain ⟨i, hi, rfl⟩ := List.getElem_of_mem hz
  have h3 := (inRange_iff h1).1 h2 i (by omega)
  have h4 := ((procF_parts (show i < ps.length by omega)).1 (procF_of_valid hv (by omega))).2.2.2
  rw [cAt_nat hi] at h3
  omega
end Go.AL
end
section
/- The package run: the least walk. No condition. -/
namespace Go.AL
open Go Go.RowKit
set_option maxRecDepth 4000
def wlkF (ps : List Pr) (perm : List Int → Bool) : List (List Int) := match wlkR ps perm (off ps ps.length) (zeroC ps) with
  | none => []
  | some R => zeroC ps :: R
theorem firstP_eq {ps : List Pr} {f : List Int → Bool} {c : List Int} {p : Nat} (hp : p < c.length) (h : (rdyF ps c p && f (stpC c p)) = true) (h0 : ∀ q, q < p → (rdyF ps c q && f (stpC c q)) = false) : firstP ps f c = some p := by
  unfold firstP
  rw [List.find?_range_eq_some]
  exact ⟨h, List.mem_range.2 hp, fun q hq => by rw [h0 q hq]; rfl⟩
theorem firstP_no {ps : List Pr} {f : List Int → Bool} {c : List Int} (h0 : ∀ q, q < c.length → (rdyF ps c q && f (stpC c q)) = false) : firstP ps f c = none := by
  unfold firstP
  rw [List.find?_eq_none]
  intro q hq
  rw [h0 q (List.mem_range.1 hq)]; simp
theorem mayF_nat {ps : List Pr} {c : List Int} (hc : c.length = ps.length) {p : Nat} (hp : p < c.length) : mayF ps c p = rdyF ps c p := by
  unfold mayF
  rw [decide_eq_true ⟨by omega, by omega⟩, Bool.true_and]
  have : ((p : Int)).toNat = p := by omega
  rw [this]
def NoP (ps : List Pr) (perm : List Int → Bool) (c : List Int) (p : Nat) : Prop := ∀ q, q < p → (rdyF ps c q && perm (stpC c q)) = false
set_option maxHeartbeats 1000000 in
theorem run_walk (ps : List Pr) (hs : Sm ps) (hv : validF ps = true) (g : AV) (hgf : fo g = (True, g)) (perm : List Int → Bool) (hg : ∀ d, isF ps d = true → PV Go.Proofs.Tryz.prog g [aInts d] (ab (perm d))) :
    PC Go.Proofs.Tryz.prog 61 [aRs ps, g] (aRows (wlkF ps perm)) := by
  have hz := run_zero ps hv
  have hfu := run_full ps hs hv
  have hzs : (zeroC ps).sum = 0 := by unfold zeroC; simp
  have hof := off_small hs ps.length (Nat.le_refl _)
  have hl8 := (valid_len hv).2
  have hfl : (fullC ps).length = ps.length := by simp [fullC]
  have hmay := run_may ps hs hv
  have haR : ∀ x : List (List Int), aRows x = .sl 1 (x.map aInts) := fun _ => rfl
  have hwl : ∀ R, wlkR ps perm (off ps ps.length) (zeroC ps) = R → wlkF ps perm = match R with | none => [] | some R => zeroC ps :: R := fun R h => by unfold wlkF; rw [h]
  obtain ⟨r, hr⟩ : ∃ r, r = aRs ps := ⟨_, rfl⟩
  have hrf : fo r = (True, r) := by rw [hr]; rfl
  rw [← hr] at hz hfu hmay ⊢
  clear hr
  refine PC.enter 51 [.tmp 4] [48] Go.Proofs.Tryz.func61 rfl rfl rfl rfl rfl (by simp) (AWp.of ?_); simp only [go_sem]
  repeat (first | ((with_reducible refine AWp.ofC ?_ ?_); (focus exact rfl); simp only [go_sem, hrf]) | ((with_reducible refine an ?_ ?_); focus exact Au))
  repeat ((with_reducible refine an ?_ ?_); focus exact As)
  refine (hz).val.use ?_; simp only [go_sem]
  repeat (first | ((with_reducible refine AWp.ofC ?_ ?_); (focus exact rfl); simp only [go_sem]) | ((with_reducible refine an ?_ ?_); focus exact Au))
  intro b12
  repeat (first | ((with_reducible refine AWp.ofC ?_ ?_); (focus exact rfl); simp only [go_sem, hrf]) | ((with_reducible refine an ?_ ?_); focus exact Au))
  repeat ((with_reducible refine an ?_ ?_); focus exact As)
  refine (hfu).val.use ?_; simp only [go_sem]
  refine AWp.block (AWp.loopN [5, 6] [0, 1, 7] (fun m vs L => ∃ c O v, vs = [aInts c, v] ∧ isF ps c = true ∧ c.sum + m = off ps ps.length ∧ (O.length : Int) = c.sum + 1 ∧ (wlkR ps perm (off ps ps.length) (zeroC ps)).map (zeroC ps :: ·) = (wlkR ps perm m c).map (O ++ ·) ∧ AppSt 42 1 (O.map aInts) v L) (off ps ps.length) ?_ ?_)
  · exact ⟨zeroC ps, [zeroC ps], _, rfl, zeroC_is ps, by omega, by rw [hzs]; rfl, rfl, .row _ _ _⟩
  rintro m vs L - ⟨c, O, v, rfl, hc, hsm, hol, hw, hA⟩
  have hcl := (isF_iff.1 hc).1
  have heq := ints_equal c (fullC ps) (by omega)
  have hfs := full_of_sum hc
  have hfoA : ∀ b k off len cap : Nat, fo (.ls b k off len cap) = (True, .ls b k off len cap) := fun _ _ _ _ _ => rfl
  have hO0 : O ≠ [] := fun e => by subst e; have := sum_nonneg c (isF_nonneg hc); simp at hol; omega
  obtain ⟨bo, cap, rfl, rfl⟩ : ∃ bo cap, v = .ls bo 1 0 (O.map aInts).length cap ∧ L = [(bo, .row 42 1 (O.map aInts) cap)] := by
    rcases hA.inv with ⟨e1, _, _⟩ | h
    · exact absurd (List.map_eq_nil_iff.1 e1) hO0
    · exact h
  cases m with
  | zero =>
    have hcf : c = fullC ps := hfs.2 (by omega)
    have hde : decide (c = fullC ps) = true := decide_eq_true hcf
    rw [hde] at heq
    have hres : wlkF ps perm = O := by
      have e0 : wlkR ps perm 0 c = some [] := rfl
      rw [e0] at hw
      cases hx : wlkR ps perm (off ps ps.length) (zeroC ps) with
      | none => rw [hx] at hw; cases hw
      | some R =>
        rw [hx] at hw
        rw [hwl _ hx]
        have := Option.some.inj hw
        simpa using this
    rw [hres]
    simp only [go_sem]
    repeat (first | ((with_reducible refine AWp.ofC ?_ ?_); (focus exact rfl); simp only [go_sem]) | ((with_reducible refine an ?_ ?_); focus exact Au))
    repeat ((with_reducible refine an ?_ ?_); focus exact As)
    refine (heq).val.use ?_; simp only [go_sem]
    repeat (first | ((with_reducible refine AWp.ofC ?_ ?_); (focus exact rfl); simp only [go_sem]) | ((with_reducible refine an ?_ ?_); focus exact Au))
    refine ret_view [true] ?_; simp only [go_sem]
    exact Vw.ofLs (if_pos rfl) (by rw [List.length_map])
  | succ m =>
    have hcf : ¬ c = fullC ps := fun e => by have := hfs.1 e; omega
    have hde : decide (c = fullC ps) = false := decide_eq_false hcf
    rw [hde] at heq
    have hcb := isF_cb hs hc
    simp only [go_sem]
    repeat (first | ((with_reducible refine AWp.ofC ?_ ?_); (focus exact rfl); simp only [go_sem]) | ((with_reducible refine an ?_ ?_); focus exact Au))
    repeat ((with_reducible refine an ?_ ?_); focus exact As)
    refine (heq).val.use ?_; simp only [go_sem]
    repeat (first | ((with_reducible refine AWp.ofC ?_ ?_); (focus exact rfl); simp only [go_sem]) | ((with_reducible refine an ?_ ?_); focus exact Au))
    refine AWp.cut [0, 1, 5, 6, 7, 8] (fun vs L' => ∃ p : Nat, vs = [r, g, aInts c, .ls bo 1 0 (O.map aInts).length cap, aInts (fullC ps), ai p] ∧ L' = [(bo, .row 42 1 (O.map aInts) cap)] ∧ ((p < c.length ∧ firstP ps perm c = some p) ∨ (p = c.length ∧ firstP ps perm c = none))) ?_ ?_
    · refine AWp.block (AWp.loopN [8] [0, 1, 5, 6, 7] (fun k vs L' => ∃ p : Nat, vs = [ai p] ∧ p + k = c.length ∧ L' = [(bo, .row 42 1 (O.map aInts) cap)] ∧ NoP ps perm c p) c.length ⟨0, rfl, by omega, rfl, fun q hq => by omega⟩ ?_)
      rintro k vs L' - ⟨p, rfl, hpk, rfl, hno⟩
      cases k with
      | zero =>
        have hpl : ¬ (p : Int) < (c.length : Int) := by omega
        have hpe : p = c.length := by omega
        simp only [go_sem]
        repeat (first | ((with_reducible refine AWp.ofC ?_ ?_); (focus exact rfl); simp only [go_sem, hpl, hrf]) | ((with_reducible refine an ?_ ?_); focus exact Au))
        refine GCall.use (ab false) (fun h => False.elim h) ?_
        simp only [go_sem, hgf]
        repeat (first | ((with_reducible refine AWp.ofC ?_ ?_); (focus exact rfl); simp only [go_sem, hpl, hgf, hrf, hfoA]) | ((with_reducible refine an ?_ ?_); focus exact Au))
        refine GCall.use (aInts []) (fun h => False.elim h) ?_
        simp only [go_sem]
        repeat (first | ((with_reducible refine AWp.ofC ?_ ?_); (focus exact rfl); simp only [go_sem, hpl, hgf, hrf, hfoA]) | ((with_reducible refine an ?_ ?_); focus exact Au))
        refine GCall.use (ab false) (fun h => False.elim h) ?_
        simp only [go_sem]
        repeat (first | ((with_reducible refine AWp.ofC ?_ ?_); (focus exact rfl); simp only [go_sem]) | ((with_reducible refine an ?_ ?_); focus exact Au))
        exact ⟨_, List.Sublist.refl _, p, rfl, rfl, .inr ⟨hpe, firstP_no fun q hq => hno q (by omega)⟩⟩
      | succ k =>
        have hpl : (p : Int) < (c.length : Int) := by omega
        have hp : p < c.length := by omega
        have hmp := hmay c hc p
        rw [mayF_nat hcl hp] at hmp
        have hne := run_next c hcb.1 hcb.2 p hp
        simp only [go_sem]
        repeat (first | ((with_reducible refine AWp.ofC ?_ ?_); (focus exact rfl); simp only [go_sem, hpl, hrf]) | ((with_reducible refine an ?_ ?_); focus exact Au))
        repeat ((with_reducible refine an ?_ ?_); focus exact As)
        refine GCall.use (ab (rdyF ps c p)) (fun _ => ⟨At, (hmp).val.use ⟨rfl, rfl⟩⟩) ?_; simp only [go_sem, hgf]
        repeat (first | ((with_reducible refine AWp.ofC ?_ ?_); (focus exact rfl); simp only [go_sem, hpl, hgf, hrf, hfoA]) | ((with_reducible refine an ?_ ?_); focus exact Au))
        repeat ((with_reducible refine an ?_ ?_); focus exact As)
        refine GCall.use (aInts (stpC c p)) (fun _ => ⟨At, (hne).val.use ⟨rfl, rfl⟩⟩) ?_; simp only [go_sem]
        repeat (first | ((with_reducible refine AWp.ofC ?_ ?_); (focus exact rfl); simp only [go_sem, hpl, hgf, hrf, hfoA]) | ((with_reducible refine an ?_ ?_); focus exact Au))
        refine GCall.use (ab (perm (stpC c p))) (fun h => ⟨by simpa using h, (hg _ (rdy_is (by simpa using h))).use ⟨rfl, rfl⟩⟩) ?_
        simp only [go_sem]
        cases hrp : (rdyF ps c p && perm (stpC c p)) with
        | true =>
          rw [Bool.and_eq_true] at hrp
          repeat (first | ((with_reducible refine AWp.ofC ?_ ?_); (focus exact rfl); simp only [go_sem, hrp.1, hrp.2]) | ((with_reducible refine an ?_ ?_); focus exact Au))
          exact ⟨_, List.Sublist.refl _, p, rfl, rfl, .inl ⟨hp, firstP_eq hp (by rw [hrp.1, hrp.2]; rfl) hno⟩⟩
        | false =>
          have hnn : (!rdyF ps c p || !perm (stpC c p)) = true := by rw [← Bool.not_and, hrp]; rfl
          have hno' : NoP ps perm c (p + 1) := fun q hq => by
            by_cases e : q = p
            · subst e; exact hrp
            · exact hno q (by omega)
          cases hr : rdyF ps c p with
          | false =>
            repeat (first | ((with_reducible refine AWp.ofC ?_ ?_); (focus exact rfl); simp only [go_sem]) | ((with_reducible refine an ?_ ?_); focus exact Au))
            exact ⟨_, List.Sublist.refl _, k, by omega, p + 1, rfl, by omega, rfl, hno'⟩
          | true =>
            rw [hr, Bool.true_and] at hrp
            repeat (first | ((with_reducible refine AWp.ofC ?_ ?_); (focus exact rfl); simp only [go_sem, hrp]) | ((with_reducible refine an ?_ ?_); focus exact Au))
            exact ⟨_, List.Sublist.refl _, k, by omega, p + 1, rfl, by omega, rfl, hno'⟩
    · rintro vs L' - ⟨p, rfl, rfl, hcase⟩
      simp only [go_sem]
      rcases hcase with ⟨hp, hf⟩ | ⟨rfl, hf⟩
      · obtain ⟨_, a2, a3⟩ := firstP_some hf
        have hne := run_next c hcb.1 hcb.2 p hp
        have hpl : ¬ (p : Int) = (c.length : Int) := by omega
        have hsp : (stpC c p).sum = c.sum + 1 := sum_stpC hp
        repeat (first | ((with_reducible refine AWp.ofC ?_ ?_); (focus exact rfl); simp only [go_sem, hpl]) | ((with_reducible refine an ?_ ?_); focus exact Au))
        repeat ((with_reducible refine an ?_ ?_); focus exact As)
        refine (hne).val.use ?_; simp only [go_sem]
        repeat (first | ((with_reducible refine AWp.ofC ?_ ?_); (focus exact rfl); simp only [go_sem, hfoA]) | ((with_reducible refine an ?_ ?_); focus exact Au))
        intro b' cap' hc'
        have e : (O ++ [stpC c p]).map aInts = O.map aInts ++ [.sl 1 ((stpC c p).map ai)] := by rw [List.map_append]; rfl
        refine ⟨_, List.Sublist.refl _, m, by omega, stpC c p, O ++ [stpC c p], _, rfl, rdy_is a2, by omega, by rw [List.length_append, List.length_cons, List.length_nil]; omega, ?_, ?_⟩
        · rw [hw, wlkR_succ, hf]
          cases hq : wlkR ps perm m (stpC c p) with
          | none => simp only [hq, Option.map_none]
          | some R => simp [hq]
        · rw [e]
          exact AppSt.snoc b' cap' _ (by rw [List.length_map])
      · repeat (first | ((with_reducible refine AWp.ofC ?_ ?_); (focus exact rfl); simp only [go_sem]) | ((with_reducible refine an ?_ ?_); focus exact Au))
        have hres : wlkF ps perm = [] := by
          rw [wlkR_succ, hf] at hw
          cases hx : wlkR ps perm (off ps ps.length) (zeroC ps) with
          | none => exact hwl _ hx
          | some R => rw [hx] at hw; cases hw
        rw [hres]
        refine ret_view [] ?_; simp only [go_sem]
        exact .nil _
end Go.AL
end
section
/- Irreducible cuts: the package's and the reference's. No condition. -/
namespace Go.AL
open Go Go.RowKit
set_option maxRecDepth 4000
def takC (c : List Int) (p : Nat) : List Int := c.set p (cAt c p - 1)
/-- Whether the last event of a process may be taken away. -/
def remB (ps : List Pr) (c : List Int) (p : Nat) : Bool := decide (0 < cAt c p) && isF ps (takC c p)
def remN (ps : List Pr) (c : List Int) (k : Nat) : Nat := ((List.range k).filter (remB ps c)).length
def irrF (ps : List Pr) (c : List Int) : Bool := decide (remN ps c c.length = 1)
/-- None of the first n events of q asks for the last of p. -/
def freeN (ps : List Pr) (c : List Int) (p : Nat) (x : Pr) (n : Nat) : Bool := (x.evs.take n).all fun e => !decide ((needE ps e).2 = cAt c p) || !decide ((needE ps e).1 = p)
def freeU (ps : List Pr) (c : List Int) (p k : Nat) : Bool := (List.range k).all fun q => freeN ps c p (ps.getD q ⟨⟨#[]⟩, [], []⟩) (cAt c q).toNat
end Go.AL
end
section
/- There are as many irreducible cuts as events. Plain laws. No condition. -/
namespace Go.AL
open Go Go.RowKit
set_option maxRecDepth 4000
/-- The least cut with the event i of p (from 0). -/
def ptF (ps : List Pr) (p i : Nat) : List Int := closeF ps (stC ps.length p ((i : Int) + 1))
section
variable {ps : List Pr} (hv : validF ps = true) {p : Nat} (hp : p < ps.length) {i : Nat} (hi : i < ps[p].evs.length)
include hv hp hi
end
end Go.AL
end
section
/- Runs, plainly: the order of the events of a run, and exchanging two neighbors. No condition. -/
namespace Go.AL
open Go Go.RowKit
set_option maxRecDepth 4000
def evtF : List (List Int) → List Eid
  | [] => []
  | a :: r => evtG a r
theorem chn_cons {ps : List Pr} {a b : List Int} {r : List (List Int)} (ha : isF ps a = true) : chnF ps a (b :: r) = true ↔ ∃ q : Nat, q < ps.length ∧ rdyF ps a q = true ∧ b = stpC a q ∧ stepF a b = q ∧ chnF ps b r = true := by
  have hl := (isF_iff.1 ha).1
  have e : chnF ps a (b :: r) = ((isF ps b && decide (0 ≤ stepF a b)) && chnF ps b r) := rfl
  rw [e, Bool.and_eq_true, Bool.and_eq_true, decide_eq_true_eq]
  constructor
  · rintro ⟨⟨h1, h2⟩, h3⟩
    have h4 := stpP_step (b := b) ha
    rw [if_pos ⟨h1, h2⟩] at h4
    obtain ⟨g1, g2, g3⟩ := (stpP_some hl).1 h4
    exact ⟨_, g1, g2, g3, by omega, h3⟩
  · rintro ⟨q, h1, h2, h3, h4, h5⟩
    exact ⟨⟨by rw [h3]; exact rdy_is h2, by omega⟩, h5⟩
theorem isrun_mk {ps : List Pr} {R : List (List Int)} (h : chnF ps (zeroC ps) R = true) (hl : (zeroC ps :: R).getLast? = some (fullC ps)) : isRunF ps (zeroC ps :: R) = true := by
  show (decide (zeroC ps = zeroC ps ∧ (zeroC ps :: R).getLast? = some (fullC ps)) && chnF ps (zeroC ps) R) = true
  rw [decide_eq_true ⟨rfl, hl⟩, h]; rfl
/-- A walk from a cut is a chain. -/
theorem wlk_chn {ps : List Pr} {perm : List Int → Bool} : ∀ {n : Nat} {c : List Int} {R : List (List Int)}, isF ps c = true → wlkR ps perm n c = some R → chnF ps c R = true ∧ R.length = n
  | 0, c, R, hc, h => by
    have : R = [] := (Option.some.inj h).symm
    subst this; exact ⟨rfl, rfl⟩
  | n + 1, c, R, hc, h => by
    rw [wlkR_succ] at h
    cases hf : firstP ps perm c with
    | none => rw [hf] at h; cases h
    | some p =>
      rw [hf] at h
      simp only at h
      cases hs : wlkR ps perm n (stpC c p) with
      | none => rw [hs] at h; cases h
      | some R' =>
        rw [hs] at h
        have hR : R = stpC c p :: R' := (Option.some.inj h).symm
        subst hR
        obtain ⟨a1, a2, _⟩ := firstP_some hf
        obtain ⟨i1, i2⟩ := wlk_chn (rdy_is a2) hs
        have hl := (isF_iff.1 hc).1
        exact ⟨(chn_cons hc).2 ⟨p, by omega, a2, rfl, stepF_iff.2 ⟨a1, rfl⟩, i1⟩, by rw [List.length_cons, i2]⟩
/-! ### Before -/
def ptE (ps : List Pr) (x : Eid) : List Int := ptF ps x.1.toNat (x.2.toNat - 1)
def befE (ps : List Pr) (x y : Eid) : Bool := decide (x ≠ y) && decide (x.2 ≤ cAt (ptE ps y) x.1)
/-! ### Exchanging two neighbors -/
def swapL : List Eid → Nat → List Eid
  | x :: y :: l, 0 => y :: x :: l
  | x :: l, i + 1 => x :: swapL l i
  | l, _ => l
def concE (ps : List Pr) (x y : Eid) : Bool := decide (x ≠ y) && (!befE ps x y && !befE ps y x)
end Go.AL
end
