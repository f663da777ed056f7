/- Texts of this claim's proof: WCut, WCut2, WVar, WKn, WKn2, WStp, WStp2, WRk, WRf2, WRf3, WDn. No condition. -/
import Derived.Test.YtmnabhohlflkkaaGreatM5
section
/- The package cut: what is given, what is missing. No condition. -/
namespace Go.AL
open Go Go.RowKit
set_option maxRecDepth 4000
noncomputable def findV (ps : List Pr) (kind m : Int) : Eid := if validF ps then findIn (evIds ps) kind m else (0, 0)
theorem findIn_none {l : List (Eid × Ev)} {kind m : Int} (h : ∀ x ∈ l, ¬ (x.2.kind = kind ∧ x.2.msg = m)) : findIn l kind m = (0, 0) := by
  unfold findIn
  have : l.find? (fun x => decide (x.2.kind = kind) && decide (x.2.msg = m)) = none := by
    rw [List.find?_eq_none]; intro x hx; simpa using h x hx
  rw [this]
theorem findIn_hit {l : List (Eid × Ev)} {kind m : Int} {k : Nat} {x : Eid × Ev} (hx : l[k]? = some x) (h0 : ∀ (j : Nat) (y : Eid × Ev), j < k → l[j]? = some y → ¬ (y.2.kind = kind ∧ y.2.msg = m)) (h : x.2.kind = kind ∧ x.2.msg = m) : findIn l kind m = x.1 := by
  unfold findIn
  obtain ⟨hk, he⟩ := List.getElem?_eq_some_iff.1 hx
  have : l.find? (fun x => decide (x.2.kind = kind) && decide (x.2.msg = m)) = some x := by
    rw [List.find?_eq_some_iff_getElem]
    exact ⟨by simpa using h, k, hk, he, fun j hj => by
      have := h0 j _ hj (List.getElem?_eq_getElem (by omega))
      simp only [Bool.not_eq_true', Bool.and_eq_false_iff, decide_eq_false_iff_not]
      exact Classical.not_and_iff_not_or_not.1 this⟩
  rw [this]
theorem trace_find (ps : List Pr) (hs : Sm ps) (kind m : Int) : PC Go.Proofs.Tryz.prog 145 [aTr ps, ai kind, ai m] (.tup [aEid (findV ps kind m), ab (decide (0 < (findV ps kind m).2))]) := by
  refine PC.enter 30 [.cell 6 66, .cell 7 4] [3, 4, 5, 8, 9] Go.Proofs.Tryz.func145 rfl rfl rfl rfl rfl (by simp) (AWp.of ?_); simp only [go_sem]
  intro b6
  intro b7 h7
  have n67 : ¬ b6 = b7 := by omega
  have n76 : ¬ b7 = b6 := by omega
  repeat ((with_reducible refine an ?_ ?_); focus exact As)
  refine AWp.of ?_; simp only [go_sem]
  repeat ((with_reducible refine an ?_ ?_); focus exact As)
  refine (trace_Valid ps hs).val.use ?_; simp only [go_sem]
  repeat (first | ((with_reducible refine AWp.ofC ?_ ?_); (focus exact rfl); simp only [go_sem, n67, n76]) | ((with_reducible refine an ?_ ?_); focus exact Au))
  refine ⟨fun h1 => ?_, fun h1 => ?_⟩
  · repeat (first | ((with_reducible refine AWp.ofC ?_ ?_); (focus exact rfl); simp only [go_sem]) | ((with_reducible refine an ?_ ?_); focus exact Au))
    have hf : findV ps kind m = (0, 0) := by unfold findV; rw [h1]; rfl
    rw [hf]
    refine ret_eq ?_
    simp only [go_sem, n67, n76]
    rfl
  · repeat (first | ((with_reducible refine AWp.ofC ?_ ?_); (focus exact rfl); simp only [go_sem]) | ((with_reducible refine an ?_ ?_); focus exact Au))
    have hf : findV ps kind m = findIn (evIds ps) kind m := by unfold findV; rw [h1]; rfl
    repeat ((with_reducible refine an ?_ ?_); focus exact As)
    refine (trace_events ps).val.use ?_; simp only [go_sem]
    refine AWp.block (AWp.rangeFunc rfl [4, 5, 6, 7] (evArgs ps) (fun k L => L = [(b7, .row 4 1 [ab false] 1), (b6, .row 66 2 [aEid (0, 0)] 1)] ∧ ∀ (j : Nat) (y : Eid × Ev), j < k → (evIds ps)[j]? = some y → ¬ (y.2.kind = kind ∧ y.2.msg = m))
      (fun e L => e = .ret ∧ 0 < (findIn (evIds ps) kind m).2 ∧ L = [(b7, .row 4 1 [ab true] 1), (b6, .row 66 2 [aEid (findIn (evIds ps) kind m)] 1)])
      rfl (trace_events1 ps hs) (fun x hx => by obtain ⟨k, hk⟩ := List.getElem?_of_mem hx; obtain ⟨_, _, _, _, _, _, rfl⟩ := evArgs_inv hk; rfl) ⟨by simp [aEid], by omega⟩ ?_ ?_ ?_)
    · rintro k x L' l hx ⟨rfl, hI⟩
      obtain ⟨p, hp, i, hi, hk, hev, rfl⟩ := evArgs_inv hx
      simp only [go_sem]
      repeat ((with_reducible refine an ?_ ?_); focus exact As)
      refine AWp.of ?_; simp only [go_sem]
      repeat ((with_reducible refine an ?_ ?_); focus exact As)
      intros
      refine AWp.of ?_; simp only [go_sem]
      repeat ((with_reducible refine an ?_ ?_); focus exact As)
      intros
      refine AWp.of ?_; simp only [go_sem]
      repeat (first | ((with_reducible refine AWp.ofC ?_ ?_); (focus exact rfl); simp only [go_sem, n67, n76]) | ((with_reducible refine an ?_ ?_); focus exact Au))
      refine ⟨fun h2 h3 => ?_, fun h2 => ?_⟩
      · repeat (first | ((with_reducible refine AWp.ofC ?_ ?_); (focus exact rfl); simp only [go_sem]) | ((with_reducible refine an ?_ ?_); focus exact Au))
        have := findIn_hit hev hI ⟨h2, h3⟩
        refine ⟨_, List.Sublist.refl _, ?_, ?_⟩
        · rw [this]; show (0 : Int) < (i : Int) + 1; omega
        · rw [this]
      · refine ⟨_, List.Sublist.refl _, rfl, fun j y hj hy => ?_⟩
        by_cases e : j = k
        · subst e; rw [hev] at hy; cases hy; rintro ⟨h3, h4⟩; exact h2 h3 h4
        · exact hI j y (by omega) hy
    · rintro L' ⟨rfl, hI⟩
      have h0 := findIn_none (l := evIds ps) (kind := kind) (m := m) (fun x hx => by
        obtain ⟨j, hj⟩ := List.getElem?_of_mem hx
        exact hI j x (by unfold evArgs; rw [List.length_map]; exact (List.getElem?_eq_some_iff.1 hj).1) hj)
      simp only [go_sem]
      repeat (first | ((with_reducible refine AWp.ofC ?_ ?_); (focus exact rfl); simp only [go_sem, n67, n76]) | ((with_reducible refine an ?_ ?_); focus exact Au))
      rw [hf, h0]
      refine ret_eq ?_
      simp only [go_sem, n67, n76]
      rfl
    · rintro e L' ⟨he, hpos, rfl⟩
      subst he
      show retK _ _ _ _ _
      rw [hf, decide_eq_true hpos]
      refine ret_eq ?_
      simp only [go_sem, n67, n76]
theorem trace_Sender (ps : List Pr) (hs : Sm ps) (m : Int) : PC Go.Proofs.Tryz.prog 123 [aTr ps, ai m] (.tup [aEid (findV ps 2 m), ab (decide (0 < (findV ps 2 m).2))]) := by
  refine PC.enter 11 [.cell 4 66, .tmp 5] [2] Go.Proofs.Tryz.func123 rfl rfl rfl rfl rfl (by simp) (AWp.of ?_); simp only [go_sem]
  intro b4
  repeat ((with_reducible refine an ?_ ?_); focus exact As)
  refine AWp.of ?_; simp only [go_sem]
  repeat ((with_reducible refine an ?_ ?_); focus exact As)
  refine (trace_find ps hs 2 m).val.use ?_; simp only [go_sem]
  repeat (first | ((with_reducible refine AWp.ofC ?_ ?_); (focus exact rfl); simp only [go_sem]) | ((with_reducible refine an ?_ ?_); focus exact Au))
  refine ret_eq ?_; simp only [go_sem]
theorem cut_process (ps : List Pr) (p : Int) : PC Go.Proofs.Tryz.prog 105 [aTr ps, ai p] (ab (decide (0 ≤ p) && decide (p < ps.length))) := by
  refine PC.enter 14 [.tmp 4] [2] Go.Proofs.Tryz.func105 rfl rfl rfl rfl rfl (by simp) (AWp.of ?_); simp only [go_sem]
  repeat (first | ((with_reducible refine AWp.ofC ?_ ?_); (focus exact rfl); simp only [go_sem]) | ((with_reducible refine an ?_ ?_); focus exact Au))
  refine ret_eq ?_; simp only [go_sem]
/-- Whether counts are in range. -/
def cntOk (ps : List Pr) (c : List Int) (p : Nat) : Bool :=
  match ps[p]?, c[p]? with
  | some x, some n => decide (0 ≤ n) && decide (n ≤ x.evs.length)
  | _, _ => true
def inRangeF (ps : List Pr) (c : List Int) : Bool := (List.range c.length).all (cntOk ps c)
theorem cut_inRange (ps : List Pr) (hs : Sm ps) (c : List Int) (hc : c.length = ps.length) : PC Go.Proofs.Tryz.prog 104 [aTr ps, aInts c] (ab (inRangeF ps c)) := by
  have hl := hs.procs
  refine PC.enter 28 [.tmp 4] [2] Go.Proofs.Tryz.func104 rfl rfl rfl rfl rfl (by simp) (AWp.of ?_); simp only [go_sem]
  repeat ((with_reducible refine an ?_ ?_); focus exact As)
  refine AWp.of ?_; simp only [go_sem]
  refine AWp.range' c.length [] [2, 7, 8] (fun k vs L => L = [] ∧ ∀ j, j < k → cntOk ps c j = true) (by omega) rfl rfl rfl ⟨rfl, by omega⟩ ?_ ?_
  · rintro k vs L' hk - ⟨rfl, hI⟩
    have hkp : k < ps.length := by omega
    have e : cntOk ps c k = (decide (0 ≤ c[k]) && decide (c[k] ≤ ps[k].evs.length)) := by simp only [cntOk, List.getElem?_eq_getElem hk, List.getElem?_eq_getElem hkp]
    simp only [go_sem]
    repeat (first | ((with_reducible refine AWp.ofC ?_ ?_); (focus exact rfl); simp only [go_sem, getD_map hk, getD_map hkp]) | ((with_reducible refine an ?_ ?_); focus exact Au))
    refine ⟨fun h1 => ?_, fun h1 h2 => ?_⟩
    · repeat (first | ((with_reducible refine AWp.ofC ?_ ?_); (focus exact rfl); simp only [go_sem]) | ((with_reducible refine an ?_ ?_); focus exact Au))
      refine ret_eq ?_; simp only [go_sem]
      have e2 : cntOk ps c k = false := by
        rw [e]; rcases h1 with h1 | h1
        · rw [decide_eq_false (by omega)]; rfl
        · rw [decide_eq_false (p := c[k] ≤ (ps[k].evs.length : Int)) (by omega), Bool.and_false]
      congr 2; symm
      unfold inRangeF; rw [List.all_eq_false]
      exact ⟨k, List.mem_range.2 hk, by simp [e2]⟩
    · refine ⟨_, List.Sublist.refl _, rfl, fun j hj => ?_⟩
      by_cases ej : j = k
      · rw [ej, e]; simp; omega
      · exact hI j (by omega)
  · rintro vs L' - ⟨rfl, hI⟩
    simp only [go_sem]
    repeat (first | ((with_reducible refine AWp.ofC ?_ ?_); (focus exact rfl); simp only [go_sem]) | ((with_reducible refine an ?_ ?_); focus exact Au))
    refine ret_eq ?_; simp only [go_sem]
    congr 2; symm
    unfold inRangeF; rw [List.all_eq_true]
    exact fun j hj => hI j (List.mem_range.1 hj)
theorem cut_sized1 (ps : List Pr) (c : List Int) : PC Go.Proofs.Tryz.prog 130 [aInts c, .rp 1 [aTr ps] 0 0] (ab (!decide (c.length = ps.length))) := by
  refine PC.enter 10 [.tmp 3] [] Go.Proofs.Tryz.func130 rfl rfl rfl rfl rfl (by simp) (AWp.of ?_); simp only [go_sem]
  repeat (first | ((with_reducible refine AWp.ofC ?_ ?_); (focus exact rfl); simp only [go_sem]) | ((with_reducible refine an ?_ ?_); focus exact Au))
  refine ret_eq ?_; simp only [go_sem]
  congr 2; simp only [Int.natCast_inj]
noncomputable def sizedF (ps : List Pr) (l : List (List Int)) : Bool := validF ps && !l.any fun c => !decide (c.length = ps.length)
theorem cut_sized (ps : List Pr) (hs : Sm ps) (l : List (List Int)) (hl : l.length ≤ 1000000) : PC Go.Proofs.Tryz.prog 103 [aTr ps, aRows l] (ab (sizedF ps l)) := by
  refine PC.enter 13 [.tmp 4] [2] Go.Proofs.Tryz.func103 rfl rfl rfl rfl rfl (by simp) (AWp.of ?_); simp only [go_sem]
  repeat (first | ((with_reducible refine AWp.ofC ?_ ?_); (focus exact rfl); simp only [go_sem]) | ((with_reducible refine an ?_ ?_); focus exact Au))
  repeat ((with_reducible refine an ?_ ?_); focus exact As)
  refine (trace_Valid ps hs).val.use ?_; simp only [go_sem]
  repeat ((with_reducible refine an ?_ ?_); focus exact As)
  refine GCall.use (ab (l.any fun c => !decide (c.length = ps.length))) (fun _ => ⟨At, (rows_containsFunc l hl (.clo 130 [.rp 1 [aTr ps] 0 0]) rfl (fun c => !decide (c.length = ps.length)) fun c _ => (cut_sized1 ps c).clo).val.use ⟨rfl, rfl⟩⟩) ?_; simp only [go_sem]
  repeat (first | ((with_reducible refine AWp.ofC ?_ ?_); (focus exact rfl); simp only [go_sem]) | ((with_reducible refine an ?_ ?_); focus exact Au))
  refine ret_eq ?_; simp only [go_sem]
  rfl
end Go.AL
end
section
/- The package cut: consistent cuts. No condition. -/
namespace Go.AL
open Go Go.RowKit
set_option maxRecDepth 4000
theorem valid_len {ps : List Pr} (h : validF ps = true) : 1 ≤ ps.length ∧ ps.length ≤ 8 := by
  unfold validF faultF at h
  simp only [decide_eq_true_eq] at h
  split at h
  · simp at h
  · rename_i hn
    have hn' : inI ps.length 1 8 = true := by simpa using hn
    simp only [inI, Bool.and_eq_true, decide_eq_true_eq] at hn'
    omega
theorem findIn_or (ps : List Pr) (kind m : Int) : findIn (evIds ps) kind m = (0, 0) ∨ VEv ps (findIn (evIds ps) kind m) := by
  unfold findIn
  cases hf : (evIds ps).find? (fun x => decide (x.2.kind = kind) && decide (x.2.msg = m)) with
  | none => exact .inl rfl
  | some x => exact .inr (VEv.of_mem (List.mem_of_find?_eq_some hf))
theorem findIn_proc {ps : List Pr} (h : 1 ≤ ps.length) (kind m : Int) : 0 ≤ (findIn (evIds ps) kind m).1 ∧ (findIn (evIds ps) kind m).1 < ps.length := by
  rcases findIn_or ps kind m with e | ⟨p, hp, i, hi, e⟩
  · rw [e]; constructor
    · exact Int.le_refl 0
    · show (0 : Int) < _; omega
  · rw [e]; constructor
    · show (0 : Int) ≤ (p : Int); omega
    · show (p : Int) < _; omega
def cAt (c : List Int) (p : Int) : Int := c.getD p.toNat 0
theorem cAt_nat {c : List Int} {p : Nat} (h : p < c.length) : cAt c p = c[p] := by simp [cAt, List.getD_eq_getElem?_getD, h]
theorem getD_cAt {c : List Int} {p : Int} (h0 : 0 ≤ p) (h : p < c.length) : (c.map ai).getD p.toNat .any = ai (cAt c p) := by
  have h2 : p.toNat < c.length := by omega
  rw [getD_map h2]; unfold cAt; simp [List.getD_eq_getElem?_getD, h2]
/-- A receive in the cut whose send is not in it. -/
def badEv (ps : List Pr) (c : List Int) (x : Eid × Ev) : Bool :=
  decide (x.2.kind = 3) && decide (x.1.2 ≤ cAt c x.1.1) && decide (cAt c (findIn (evIds ps) 2 x.2.msg).1 < (findIn (evIds ps) 2 x.2.msg).2)
def missF (ps : List Pr) (c : List Int) : Option (Eid × Eid) := ((evIds ps).find? (badEv ps c)).map fun x => (findIn (evIds ps) 2 x.2.msg, x.1)
def closedF (ps : List Pr) (c : List Int) : Bool := !(evIds ps).any (badEv ps c)
theorem missF_hit {ps : List Pr} {c : List Int} {k : Nat} {x : Eid × Ev} (hx : (evIds ps)[k]? = some x) (h0 : ∀ (j : Nat) (y : Eid × Ev), j < k → (evIds ps)[j]? = some y → badEv ps c y = false) (h : badEv ps c x = true) :
    missF ps c = some (findIn (evIds ps) 2 x.2.msg, x.1) := by
  obtain ⟨hk, he⟩ := List.getElem?_eq_some_iff.1 hx
  have : (evIds ps).find? (badEv ps c) = some x := by
    rw [List.find?_eq_some_iff_getElem]
    exact ⟨h, k, hk, he, fun j hj => by simpa using h0 j _ hj (List.getElem?_eq_getElem (by omega))⟩
  unfold missF; rw [this]; rfl
theorem missF_none {ps : List Pr} {c : List Int} (h : ∀ (j : Nat) (y : Eid × Ev), (evIds ps)[j]? = some y → badEv ps c y = false) : missF ps c = none := by
  have : (evIds ps).find? (badEv ps c) = none := by
    rw [List.find?_eq_none]; intro y hy
    obtain ⟨j, hj⟩ := List.getElem?_of_mem hy
    simpa using h j y hj
  unfold missF; rw [this]; rfl
theorem closedF_iff (ps : List Pr) (c : List Int) : closedF ps c = (missF ps c).isNone := by
  unfold closedF missF
  cases h : (evIds ps).find? (badEv ps c) with
  | none =>
    rw [List.find?_eq_none] at h
    have : (evIds ps).any (badEv ps c) = false := by rw [List.any_eq_false]; exact h
    rw [this]; rfl
  | some x =>
    have : (evIds ps).any (badEv ps c) = true := List.any_eq_true.2 ⟨x, List.mem_of_find?_eq_some h, List.find?_some h⟩
    rw [this]; rfl
def aMiss (ps : List Pr) (c : List Int) : AV := match missF ps c with
  | some (s, r) => .tup [aEid s, aEid r, ab true]
  | none => .tup [aEid (0, 0), aEid (0, 0), ab false]
theorem inRangeF_get {ps : List Pr} {c : List Int} (h : inRangeF ps c = true) (hc : c.length = ps.length) {p : Nat} (hp : p < ps.length) : 0 ≤ c[p] ∧ c[p] ≤ ps[p].evs.length := by
  unfold inRangeF at h
  rw [List.all_eq_true] at h
  have := h p (List.mem_range.2 (by omega))
  have hp' : p < c.length := by omega
  simp only [cntOk, List.getElem?_eq_getElem hp, List.getElem?_eq_getElem hp', Bool.and_eq_true, decide_eq_true_eq] at this
  exact this
theorem cut_missing (ps : List Pr) (hs : Sm ps) (c : List Int) (hv : validF ps = true) (hc : c.length = ps.length) (hr : inRangeF ps c = true) : PC Go.Proofs.Tryz.prog 131 [aTr ps, aInts c] (aMiss ps c) := by
  obtain ⟨hl1, hl8⟩ := valid_len hv
  have hfv : ∀ m, findV ps 2 m = findIn (evIds ps) 2 m := fun m => by unfold findV; rw [hv]; rfl
  refine PC.enter 61 [.cell 4 66, .cell 5 66, .tmp 6] [2, 10, 11] Go.Proofs.Tryz.func131 rfl rfl rfl rfl rfl (by simp) (AWp.of ?_); simp only [go_sem]
  intro b4
  intro b5 h5
  have n45 : ¬ b4 = b5 := by omega
  have n54 : ¬ b5 = b4 := by omega
  repeat ((with_reducible refine an ?_ ?_); focus exact As)
  refine AWp.of ?_; simp only [go_sem]
  refine AWp.range' c.length [] [1, 2, 4, 5, 13, 14] (fun k vs L => L = [(b5, .row 66 2 [aEid (0, 0)] 1), (b4, .row 66 2 [aEid (0, 0)] 1)] ∧ ∀ (j : Nat) (y : Eid × Ev), j < off ps k → (evIds ps)[j]? = some y → badEv ps c y = false) (by omega) rfl rfl rfl ⟨by simp [aEid], by simp [off]⟩ ?_ ?_
  · rintro p vs L' hp - ⟨rfl, hI⟩
    have hpp : p < ps.length := by omega
    obtain ⟨hr1, hr2⟩ := inRangeF_get hr hc hpp
    have hel := hs.evs _ (List.getElem_mem hpp)
    have hT : (ps[p].evs.take c[p].toNat).length = c[p].toNat := by rw [List.length_take]; omega
    simp only [go_sem]
    repeat (first | ((with_reducible refine AWp.ofC ?_ ?_); (focus exact rfl); simp only [go_sem, getD_map hp, getD_map hpp, hT]) | ((with_reducible refine an ?_ ?_); focus exact Au))
    refine AWp.range' c[p].toNat [] [1, 2, 4, 5, 7, 13, 14, 15, 27, 28] (fun i vs L => L = [(b5, .row 66 2 [aEid (0, 0)] 1), (b4, .row 66 2 [aEid (0, 0)] 1)] ∧ ∀ (j : Nat) (y : Eid × Ev), j < off ps p + i → (evIds ps)[j]? = some y → badEv ps c y = false) (by omega) rfl rfl rfl ⟨by simp [aEid], hI⟩ ?_ ?_
    · rintro i vs L' hi - ⟨rfl, hI⟩
      have hi' : i < (ps[p].evs.take c[p].toNat).length := by omega
      have hie : i < ps[p].evs.length := by omega
      have hge : (ps[p].evs.take c[p].toNat)[i] = ps[p].evs[i] := List.getElem_take
      have hev := evIds_get hpp hie
      have hbad : badEv ps c (((p : Int), (i : Int) + 1), ps[p].evs[i]) = (decide (ps[p].evs[i].kind = 3) && decide (cAt c (findIn (evIds ps) 2 ps[p].evs[i].msg).1 < (findIn (evIds ps) 2 ps[p].evs[i].msg).2)) := by
        simp only [badEv, cAt_nat hp, decide_eq_true (show (i : Int) + 1 ≤ c[p] by omega), Bool.and_true]
      simp only [go_sem]
      repeat ((with_reducible refine an ?_ ?_); focus exact As)
      refine AWp.of ?_; simp only [go_sem, getD_map hi', hge]
      repeat ((with_reducible refine an ?_ ?_); focus exact As)
      intros
      repeat (first | ((with_reducible refine AWp.ofC ?_ ?_); (focus exact rfl); simp only [go_sem]) | ((with_reducible refine an ?_ ?_); focus exact Au))
      refine ⟨fun h1 => ?_, fun h1 => ?_⟩
      · refine ⟨_, List.Sublist.refl _, rfl, fun j y hj hy => ?_⟩
        by_cases e : j = off ps p + i
        · subst e; rw [hev] at hy; cases hy; rw [hbad, decide_eq_false h1]; rfl
        · exact hI j y (by omega) hy
      · obtain ⟨hf1, hf2⟩ := findIn_proc hl1 2 ps[p].evs[i].msg
        rw [decide_eq_true h1, Bool.true_and] at hbad
        have hs1 := trace_Sender ps hs ps[p].evs[i].msg
        rw [hfv] at hs1
        have hgc := getD_cAt (c := c) hf1 (by omega)
        generalize hsd : findIn (evIds ps) 2 ps[p].evs[i].msg = s at *
        repeat (first | ((with_reducible refine AWp.ofC ?_ ?_); (focus exact rfl); simp only [go_sem]) | ((with_reducible refine an ?_ ?_); focus exact Au))
        repeat ((with_reducible refine an ?_ ?_); focus exact As)
        refine (hs1).val.use ?_; simp only [go_sem]
        repeat ((with_reducible refine an ?_ ?_); focus exact As)
        intros
        refine AWp.seq ?_
        refine AWp.drawn mixed 8 (by kernel_rfl) ?_; simp only [go_sem, hgc]
        repeat ((with_reducible refine an ?_ ?_); focus exact As)
        repeat (first | ((with_reducible refine AWp.ofC ?_ ?_); (focus exact rfl); simp only [go_sem, n45, n54]) | ((with_reducible refine an ?_ ?_); focus exact Au))
        refine ⟨fun h2 => ?_, fun h2 => ?_⟩
        · repeat (first | ((with_reducible refine AWp.ofC ?_ ?_); (focus exact rfl); simp only [go_sem]) | ((with_reducible refine an ?_ ?_); focus exact Au))
          have hm := missF_hit hev hI (by rw [hbad]; exact decide_eq_true h2)
          rw [hsd] at hm
          have hmm : aMiss ps c = .tup [aEid s, aEid ((p : Int), (i : Int) + 1), ab true] := by unfold aMiss; rw [hm]
          rw [hmm]
          refine ret_eq ?_
          simp only [go_sem, n45, n54]
        · refine ⟨_, List.Sublist.refl _, rfl, fun j y hj hy => ?_⟩
          by_cases e : j = off ps p + i
          · subst e; rw [hev] at hy; cases hy; rw [hbad]; exact decide_eq_false h2
          · exact hI j y (by omega) hy
    · rintro vs L' - ⟨rfl, hI⟩
      simp only [go_sem]
      refine ⟨_, List.Sublist.refl _, rfl, fun j y hj hy => ?_⟩
      rw [off_succ hpp] at hj
      by_cases e : j < off ps p + c[p].toNat
      · exact hI j y e hy
      · obtain ⟨i, hi⟩ : ∃ i, j = off ps p + i := ⟨j - off ps p, by omega⟩
        subst hi
        have hie : i < ps[p].evs.length := by omega
        rw [evIds_get hpp hie] at hy; cases hy
        simp only [badEv, cAt_nat hp, decide_eq_false (show ¬ (i : Int) + 1 ≤ c[p] by omega), Bool.and_false, Bool.false_and]
  · rintro vs L' - ⟨rfl, hI⟩
    have hm := missF_none (ps := ps) (c := c) (fun j y hy => hI j y (by rw [hc, ← evIds_length]; exact (List.getElem?_eq_some_iff.1 hy).1) hy)
    have hmm : aMiss ps c = .tup [aEid (0, 0), aEid (0, 0), ab false] := by unfold aMiss; rw [hm]
    simp only [go_sem]
    repeat (first | ((with_reducible refine AWp.ofC ?_ ?_); (focus exact rfl); simp only [go_sem, n45, n54]) | ((with_reducible refine an ?_ ?_); focus exact Au))
    rw [hmm]
    refine ret_eq ?_
    simp only [go_sem, n45, n54]
theorem cut_closed (ps : List Pr) (hs : Sm ps) (c : List Int) (hv : validF ps = true) (hc : c.length = ps.length) (hr : inRangeF ps c = true) : PC Go.Proofs.Tryz.prog 106 [aTr ps, aInts c] (ab (closedF ps c)) := by
  have hm := cut_missing ps hs c hv hc hr
  rw [closedF_iff]
  unfold aMiss at hm
  refine PC.enter 17 [.tmp 4] [2, 5, 6] Go.Proofs.Tryz.func106 rfl rfl rfl rfl rfl (by simp) (AWp.of ?_); simp only [go_sem]
  repeat (first | ((with_reducible refine AWp.ofC ?_ ?_); (focus exact rfl); simp only [go_sem]) | ((with_reducible refine an ?_ ?_); focus exact Au))
  cases h : missF ps c with
  | none =>
    rw [h] at hm
    repeat ((with_reducible refine an ?_ ?_); focus exact As)
    refine (hm).val.use ?_; simp only [go_sem]
    repeat ((with_reducible refine an ?_ ?_); focus exact As)
    intro b5 b6 h6
    have n56 : ¬ b5 = b6 := by omega
    have n65 : ¬ b6 = b5 := by omega
    simp only [go_sem, n56]
    repeat (first | ((with_reducible refine AWp.ofC ?_ ?_); (focus exact rfl); simp only [go_sem]) | ((with_reducible refine an ?_ ?_); focus exact Au))
    refine ret_eq ?_; simp only [go_sem]
    rfl
  | some x =>
    obtain ⟨a, b⟩ := x
    rw [h] at hm
    repeat ((with_reducible refine an ?_ ?_); focus exact As)
    refine (hm).val.use ?_; simp only [go_sem]
    repeat ((with_reducible refine an ?_ ?_); focus exact As)
    intro b5 b6 h6
    have n56 : ¬ b5 = b6 := by omega
    have n65 : ¬ b6 = b5 := by omega
    simp only [go_sem, n56]
    repeat (first | ((with_reducible refine AWp.ofC ?_ ?_); (focus exact rfl); simp only [go_sem]) | ((with_reducible refine an ?_ ?_); focus exact Au))
    refine ret_eq ?_; simp only [go_sem]
    rfl
/-- The error of a trace, of cuts, and of processes. -/
noncomputable def givenF (ps : List Pr) (l : List (List Int)) (procs : List Int) : Int :=
  if !sizedF ps l then 1 else if !l.all (inRangeF ps) then 2 else if !procs.all (fun p => decide (0 ≤ p) && decide (p < ps.length)) then 2 else if !l.all (closedF ps) then 18 else 0
theorem sizedF_inv {ps : List Pr} {l : List (List Int)} (h : sizedF ps l = true) : validF ps = true ∧ ∀ c ∈ l, c.length = ps.length := by
  unfold sizedF at h
  rw [Bool.and_eq_true] at h
  refine ⟨h.1, fun c hc => ?_⟩
  have := h.2
  rw [Bool.not_eq_true', List.any_eq_false] at this
  simpa using this c hc
theorem all_of_lt {α : Type} {l : List α} {p : α → Bool} (h : ∀ (i : Nat) (hi : i < l.length), p l[i] = true) : l.all p = true := by
  rw [List.all_eq_true]; intro x hx; obtain ⟨i, hi, rfl⟩ := List.getElem_of_mem hx; exact h i hi
theorem all_false_at {α : Type} {l : List α} {p : α → Bool} {i : Nat} (hi : i < l.length) (h : p l[i] = false) : l.all p = false := by
  rw [List.all_eq_false]; exact ⟨l[i], List.getElem_mem hi, by simp [h]⟩
theorem cut_given (ps : List Pr) (hs : Sm ps) (l : List (List Int)) (hl : l.length ≤ 1000000) (procs : List Int) (hp : procs.length ≤ 1000000) : PC Go.Proofs.Tryz.prog 77 [aTr ps, aRows l, aInts procs] (ai (givenF ps l procs)) := by
  refine PC.enter 50 [.tmp 6] [3] Go.Proofs.Tryz.func77 rfl rfl rfl rfl rfl (by simp) (AWp.of ?_); simp only [go_sem]
  repeat (first | ((with_reducible refine AWp.ofC ?_ ?_); (focus exact rfl); simp only [go_sem]) | ((with_reducible refine an ?_ ?_); focus exact Au))
  repeat ((with_reducible refine an ?_ ?_); focus exact As)
  refine (cut_sized ps hs l hl).val.use ?_; simp only [go_sem]
  repeat (first | ((with_reducible refine AWp.ofC ?_ ?_); (focus exact rfl); simp only [go_sem]) | ((with_reducible refine an ?_ ?_); focus exact Au))
  refine ⟨fun h1 => ?_, fun h1 => ?_⟩
  · repeat (first | ((with_reducible refine AWp.ofC ?_ ?_); (focus exact rfl); simp only [go_sem]) | ((with_reducible refine an ?_ ?_); focus exact Au))
    refine ret_eq ?_; simp only [go_sem]
    unfold givenF; rw [if_pos (by simp [h1])]
  · obtain ⟨hv, hc⟩ := sizedF_inv h1
    repeat ((with_reducible refine an ?_ ?_); focus exact As)
    refine AWp.of ?_; simp only [go_sem]
    refine AWp.range' l.length [] [1, 2, 3, 17, 18] (fun k vs L => L = [] ∧ ∀ (i : Nat) (hi : i < l.length), i < k → inRangeF ps l[i] = true) (by omega) rfl rfl rfl ⟨rfl, by omega⟩ ?_ ?_
    · rintro k vs L' hk - ⟨rfl, hI⟩
      simp only [go_sem]
      repeat ((with_reducible refine an ?_ ?_); focus exact As)
      refine AWp.of ?_; simp only [go_sem, getD_map hk]
      repeat (first | ((with_reducible refine AWp.ofC ?_ ?_); (focus exact rfl); simp only [go_sem]) | ((with_reducible refine an ?_ ?_); focus exact Au))
      repeat ((with_reducible refine an ?_ ?_); focus exact As)
      refine (cut_inRange ps hs l[k] (hc _ (List.getElem_mem hk))).val.use ?_; simp only [go_sem]
      repeat (first | ((with_reducible refine AWp.ofC ?_ ?_); (focus exact rfl); simp only [go_sem]) | ((with_reducible refine an ?_ ?_); focus exact Au))
      refine ⟨fun h2 => ?_, fun h2 => ?_⟩
      · repeat (first | ((with_reducible refine AWp.ofC ?_ ?_); (focus exact rfl); simp only [go_sem]) | ((with_reducible refine an ?_ ?_); focus exact Au))
        refine ret_eq ?_; simp only [go_sem]
        unfold givenF; rw [if_neg (by simp [h1]), if_pos (by rw [all_false_at hk h2]; rfl)]
      · refine ⟨_, List.Sublist.refl _, rfl, fun i hi hik => ?_⟩
        by_cases e : i = k
        · subst e; exact h2
        · exact hI i hi (by omega)
    · rintro vs L' - ⟨rfl, hI⟩
      have ha := all_of_lt (p := inRangeF ps) (fun i hi => hI i hi hi)
      simp only [go_sem]
      repeat ((with_reducible refine an ?_ ?_); focus exact As)
      refine AWp.of ?_; simp only [go_sem]
      refine AWp.range' procs.length [] [1, 3, 28, 29] (fun k vs L => L = [] ∧ ∀ (i : Nat) (hi : i < procs.length), i < k → (decide (0 ≤ procs[i]) && decide (procs[i] < ps.length)) = true) (by omega) rfl rfl rfl ⟨rfl, by omega⟩ ?_ ?_
      · rintro k vs L' hk - ⟨rfl, hI⟩
        simp only [go_sem]
        repeat ((with_reducible refine an ?_ ?_); focus exact As)
        refine AWp.of ?_; simp only [go_sem, getD_map hk]
        repeat (first | ((with_reducible refine AWp.ofC ?_ ?_); (focus exact rfl); simp only [go_sem]) | ((with_reducible refine an ?_ ?_); focus exact Au))
        repeat ((with_reducible refine an ?_ ?_); focus exact As)
        refine (cut_process ps procs[k]).val.use ?_; simp only [go_sem]
        repeat (first | ((with_reducible refine AWp.ofC ?_ ?_); (focus exact rfl); simp only [go_sem]) | ((with_reducible refine an ?_ ?_); focus exact Au))
        refine ⟨fun h2 => ?_, fun h2 h3 => ?_⟩
        · repeat (first | ((with_reducible refine AWp.ofC ?_ ?_); (focus exact rfl); simp only [go_sem]) | ((with_reducible refine an ?_ ?_); focus exact Au))
          refine ret_eq ?_; simp only [go_sem]
          unfold givenF; rw [if_neg (by simp [h1]), if_neg (by simp [ha]), if_pos (by rw [all_false_at hk (by simpa using h2)]; rfl)]
        · refine ⟨_, List.Sublist.refl _, rfl, fun i hi hik => ?_⟩
          by_cases e : i = k
          · subst e; exact ⟨h2, h3⟩
          · have := hI i hi (by omega); simpa using this
      · rintro vs L' - ⟨rfl, hI⟩
        have hb := all_of_lt (l := procs) (p := fun p => decide (0 ≤ p) && decide (p < (ps.length : Int))) (fun i hi => by have := hI i hi hi; simpa using this)
        simp only [go_sem]
        repeat ((with_reducible refine an ?_ ?_); focus exact As)
        refine AWp.of ?_; simp only [go_sem]
        refine AWp.range' l.length [] [3, 39, 40] (fun k vs L => L = [] ∧ ∀ (i : Nat) (hi : i < l.length), i < k → closedF ps l[i] = true) (by omega) rfl rfl rfl ⟨rfl, by omega⟩ ?_ ?_
        · rintro k vs L' hk - ⟨rfl, hI⟩
          have hir : inRangeF ps l[k] = true := by rw [List.all_eq_true] at ha; exact ha _ (List.getElem_mem hk)
          simp only [go_sem]
          repeat ((with_reducible refine an ?_ ?_); focus exact As)
          refine AWp.of ?_; simp only [go_sem, getD_map hk]
          repeat (first | ((with_reducible refine AWp.ofC ?_ ?_); (focus exact rfl); simp only [go_sem]) | ((with_reducible refine an ?_ ?_); focus exact Au))
          repeat ((with_reducible refine an ?_ ?_); focus exact As)
          refine (cut_closed ps hs l[k] hv (hc _ (List.getElem_mem hk)) hir).val.use ?_; simp only [go_sem]
          repeat (first | ((with_reducible refine AWp.ofC ?_ ?_); (focus exact rfl); simp only [go_sem]) | ((with_reducible refine an ?_ ?_); focus exact Au))
          refine ⟨fun h2 => ?_, fun h2 => ?_⟩
          · repeat (first | ((with_reducible refine AWp.ofC ?_ ?_); (focus exact rfl); simp only [go_sem]) | ((with_reducible refine an ?_ ?_); focus exact Au))
            refine ret_eq ?_; simp only [go_sem]
            unfold givenF; rw [if_neg (by simp [h1]), if_neg (by simp [ha]), if_neg (by rw [hb]; decide), if_pos (by rw [all_false_at hk h2]; rfl)]
          · refine ⟨_, List.Sublist.refl _, rfl, fun i hi hik => ?_⟩
            by_cases e : i = k
            · subst e; exact h2
            · exact hI i hi (by omega)
        · rintro vs L' - ⟨rfl, hI⟩
          have hd := all_of_lt (p := closedF ps) (fun i hi => hI i hi hi)
          simp only [go_sem]
          repeat (first | ((with_reducible refine AWp.ofC ?_ ?_); (focus exact rfl); simp only [go_sem]) | ((with_reducible refine an ?_ ?_); focus exact Au))
          refine ret_eq ?_; simp only [go_sem]
          unfold givenF; rw [if_neg (by simp [h1]), if_neg (by simp [ha]), if_neg (by rw [hb]; decide), if_neg (by rw [hd]; decide)]
/-- The last events of a cut. -/
def frontL : Nat → List Int → List Eid
  | _, [] => []
  | p, n :: r => (if 0 < n then [((p : Int), n)] else []) ++ frontL (p + 1) r
noncomputable def aFront (ps : List Pr) (c : List Int) : AV := if givenF ps [c] [] ≠ 0 then .tup [.sl 2 [], ai (givenF ps [c] [])] else .tup [aEids (frontL 0 c), ai 0]
end Go.AL
end
section
/- The package variable: values in states. No condition. -/
namespace Go.AL
open Go Go.RowKit
set_option maxRecDepth 4000
def assignL (s : List Int) (l : List (Int × Int)) : List Int := l.foldl (fun s a => s.set a.1.toNat a.2) s
/-- The values in the state k. -/
def stateAt (x : Pr) (k : Nat) : List Int := (x.evs.take k).foldl (fun s e => assignL s e.asg) (x.vars.map (·.2))
def stArgs (x : Pr) : List (List AV) := (List.range (x.evs.length + 1)).map fun (k : Nat) => [ai k, aInts (stateAt x k)]
/-- Assignments are to variables that there are. -/
def AsgOk (x : Pr) : Prop := ∀ e ∈ x.evs, ∀ a ∈ e.asg, 0 ≤ a.1 ∧ a.1 < x.vars.length
/-- The values at a cut. -/
def valuesAt (ps : List Pr) (c : List Int) : List (List Int) := (ps.zip c).map fun x => stateAt x.1 x.2.toNat
noncomputable def aAt (ps : List Pr) (c : List Int) : AV := if givenF ps [c] [] ≠ 0 then .tup [.sl 1 [], ai (givenF ps [c] [])] else .tup [aRows (valuesAt ps c), ai 0]
end Go.AL
end
section
/- The package prune: knowledge. No condition. -/
namespace Go.AL
open Go Go.RowKit
set_option maxRecDepth 4000
def inB (n : Int) : Bool := decide (0 ≤ n) && decide (n ≤ 64)
def isKn (l : List (List Int)) : Bool := decide (1 ≤ l.length) && decide (l.length ≤ 8) && l.all fun row => decide (row.length = l.length) && row.all inB
def foldF (f : Int → Int → Int) : List (List Int) → List Int
  | [] => []
  | r :: rs => rs.foldl (List.zipWith f) r
def aStable (l : List (List Int)) : AV := if isKn l then .tup [aInts (foldF min l), ai 0] else .tup [.sl 1 [], ai 1]
end Go.AL
end
section
/- The package prune and its reference: what is kept. No condition. -/
namespace Go.AL
open Go Go.RowKit
set_option maxRecDepth 4000
def kZ (l : List (List Int)) : List Int := List.zipWith (fun a b => a - b) (foldF max l) (foldF min l)
def keptF (l : List (List Int)) : Int := (kZ l).sum
def aKept (l : List (List Int)) : AV := if isKn l then .tup [ai (keptF l), ai 0] else .tup [ai 0, ai 1]
theorem ints_equal (a b : List Int) (ha : a.length ≤ 1000000) : PC Go.Proofs.Tryz.prog 31 [aInts a, aInts b] (ab (decide (a = b))) := by
  refine PC.enter 26 [.tmp 4] [] Go.Proofs.Tryz.func31 rfl rfl rfl rfl rfl (by simp) (AWp.of ?_); simp only [go_sem]
  repeat (first | ((with_reducible refine AWp.ofC ?_ ?_); (focus exact rfl); simp only [go_sem]) | ((with_reducible refine an ?_ ?_); focus exact Au))
  refine ⟨fun h1 => ?_, fun h1 => ?_⟩
  · repeat (first | ((with_reducible refine AWp.ofC ?_ ?_); (focus exact rfl); simp only [go_sem]) | ((with_reducible refine an ?_ ?_); focus exact Au))
    refine ret_eq ?_; simp only [go_sem]
    congr 2; symm; apply decide_eq_false; rintro rfl; exact h1 rfl
  · have hab : a.length = b.length := by omega
    repeat ((with_reducible refine an ?_ ?_); focus exact As)
    refine AWp.of ?_; simp only [go_sem]
    refine AWp.range' a.length [] [0, 1, 12] (fun k vs L => L = [] ∧ ∀ (i : Nat) (hi : i < a.length), i < k → a[i] = b[i]) (by omega) rfl rfl rfl ⟨rfl, by omega⟩ ?_ ?_
    · rintro k vs L' hk - ⟨rfl, hI⟩
      have hkb : k < b.length := by omega
      simp only [go_sem]
      repeat (first | ((with_reducible refine AWp.ofC ?_ ?_); (focus exact rfl); simp only [go_sem]) | ((with_reducible refine an ?_ ?_); focus exact Au))
      refine AWp.seq ?_
      refine AWp.drawn mixed 9 (by kernel_rfl) ?_; simp only [go_sem, getD_map hk, getD_map hkb]
      repeat ((with_reducible refine an ?_ ?_); focus exact As)
      repeat (first | ((with_reducible refine AWp.ofC ?_ ?_); (focus exact rfl); simp only [go_sem]) | ((with_reducible refine an ?_ ?_); focus exact Au))
      refine ⟨fun h2 => ?_, fun h2 => ?_⟩
      · repeat (first | ((with_reducible refine AWp.ofC ?_ ?_); (focus exact rfl); simp only [go_sem]) | ((with_reducible refine an ?_ ?_); focus exact Au))
        refine ret_eq ?_; simp only [go_sem]
        congr 2; symm; apply decide_eq_false; rintro rfl; exact h2 rfl
      · refine ⟨_, List.Sublist.refl _, rfl, fun i hi hik => ?_⟩
        by_cases e : i = k
        · subst e; exact h2
        · exact hI i hi (by omega)
    · rintro vs L' - ⟨rfl, hI⟩
      simp only [go_sem]
      repeat (first | ((with_reducible refine AWp.ofC ?_ ?_); (focus exact rfl); simp only [go_sem]) | ((with_reducible refine an ?_ ?_); focus exact Au))
      refine ret_eq ?_; simp only [go_sem]
      congr 2; symm; apply decide_eq_true
      exact List.ext_getElem hab (fun i h1 h2 => hI i h1 h1)
end Go.AL
end
section
/- Vector clocks, plainly: which stamps the events of a trace get, and what is executed in an order. No condition. -/
namespace Go.AL
open Go Go.RowKit
set_option maxRecDepth 4000
def evq (ps : List Pr) (p k : Nat) : Ev := (ps.getD p ⟨⟨#[]⟩, [], []⟩).evs.getD k ⟨0, 0, 0, 0, []⟩
def nev (ps : List Pr) (p : Nat) : Nat := (ps.getD p ⟨⟨#[]⟩, [], []⟩).evs.length
def sndr (ps : List Pr) (m : Int) : Eid := findIn (evIds ps) 2 m
theorem nev_get {ps : List Pr} {p : Nat} (hp : p < ps.length) : nev ps p = ps[p].evs.length := by simp [nev, hp]
theorem evq_get {ps : List Pr} {p k : Nat} (hp : p < ps.length) (hk : k < ps[p].evs.length) : evq ps p k = ps[p].evs[k] := by simp [evq, hp, hk]
/-- A process can execute its next event, where c counts what was executed. -/
def Rdy (ps : List Pr) (c : Nat → Nat) (p : Nat) : Prop :=
  p < ps.length ∧ c p < nev ps p ∧ ((evq ps p (c p)).kind = 3 → 0 < (sndr ps (evq ps p (c p)).msg).2 ∧ (sndr ps (evq ps p (c p)).msg).2 ≤ c (sndr ps (evq ps p (c p)).msg).1.toNat)
instance (ps : List Pr) (c : Nat → Nat) (p : Nat) : Decidable (Rdy ps c p) := by unfold Rdy; infer_instance
theorem Rdy.mono {ps : List Pr} {c c' : Nat → Nat} {p : Nat} (h : Rdy ps c p) (hc : ∀ q, c q ≤ c' q) (hp : c' p = c p) : Rdy ps c' p := by
  obtain ⟨h1, h2, h3⟩ := h
  refine ⟨h1, by rw [hp]; exact h2, fun hk => ?_⟩
  rw [hp] at hk ⊢
  obtain ⟨g1, g2⟩ := h3 hk
  have := hc (sndr ps (evq ps p (c p)).msg).1.toNat
  exact ⟨g1, by omega⟩
def joinV (v w : List Int) : List Int := List.zipWith max v w
def tickV (v : List Int) (p : Nat) : List Int := v.set p (v.getD p 0 + 1)
def stOf (S : Nat → List (List Int)) (p k : Nat) : List Int := (S p).getD k []
def preV (ps : List Pr) (S : Nat → List (List Int)) (p k : Nat) : List Int := if k = 0 then List.replicate ps.length 0 else stOf S p (k - 1)
def rawV (ps : List Pr) (S : Nat → List (List Int)) (p k : Nat) : List Int :=
  if (evq ps p k).kind = 3 then joinV (preV ps S p k) (stOf S (sndr ps (evq ps p k).msg).1.toNat ((sndr ps (evq ps p k).msg).2 - 1).toNat) else preV ps S p k
def vecV (ps : List Pr) (S : Nat → List (List Int)) (p k : Nat) : List Int := tickV (rawV ps S p k) p
def upS (S : Nat → List (List Int)) (p : Nat) (v : List Int) : Nat → List (List Int) := fun q => if q = p then S p ++ [v] else S q
def lenS (S : Nat → List (List Int)) : Nat → Nat := fun q => (S q).length
inductive Gen (ps : List Pr) : (Nat → List (List Int)) → Prop
  | init : Gen ps fun _ => []
  | step {S : Nat → List (List Int)} {p : Nat} (h : Gen ps S) (hr : Rdy ps (lenS S) p) : Gen ps (upS S p (vecV ps S p (S p).length))
theorem getD_set0 (v : List Int) (p j : Nat) (x : Int) : (v.set p x).getD j 0 = if p = j ∧ p < v.length then x else v.getD j 0 := by
  rw [List.getD_eq_getElem?_getD, List.getElem?_set]
  by_cases h : p = j
  · subst h
    by_cases h2 : p < v.length
    · simp [h2]
    · simp [h2]
  · simp [h, List.getD_eq_getElem?_getD]
theorem joinV_getD {v w : List Int} (h : v.length = w.length) (j : Nat) : (joinV v w).getD j 0 = max (v.getD j 0) (w.getD j 0) := by
  unfold joinV
  rw [List.getD_eq_getElem?_getD, List.getElem?_zipWith]
  by_cases hj : j < v.length
  · have hw : j < w.length := by omega
    simp [hj, hw]
  · have hw : ¬ j < w.length := by omega
    simp [hj, hw]
theorem joinV_length {v w : List Int} (h : v.length = w.length) : (joinV v w).length = v.length := by unfold joinV; rw [List.length_zipWith]; omega
theorem tickV_length (v : List Int) (p : Nat) : (tickV v p).length = v.length := by simp [tickV]
theorem upS_len (S : Nat → List (List Int)) (p : Nat) (v : List Int) (q : Nat) : (upS S p v q).length = if q = p then (S p).length + 1 else (S q).length := by
  unfold upS; split <;> simp
theorem upS_le (S : Nat → List (List Int)) (p : Nat) (v : List Int) (q : Nat) : (S q).length ≤ (upS S p v q).length := by
  rw [upS_len]; split
  · rename_i h; subst h; omega
  · omega
theorem upS_old {S : Nat → List (List Int)} {p : Nat} {v : List Int} {q k : Nat} (h : k < (S q).length) : stOf (upS S p v) q k = stOf S q k := by
  unfold stOf upS
  split
  · rename_i e; subst e; rw [List.getD_eq_getElem?_getD, List.getElem?_append_left h, ← List.getD_eq_getElem?_getD]
  · rfl
theorem upS_new {S : Nat → List (List Int)} {p : Nat} {v : List Int} : stOf (upS S p v) p (S p).length = v := by
  unfold stOf upS
  rw [if_pos rfl, List.getD_eq_getElem?_getD, List.getElem?_append_right (Nat.le_refl _)]
  simp
theorem vecV_congr {ps : List Pr} {S S' : Nat → List (List Int)} {p k : Nat} (h1 : k ≠ 0 → stOf S' p (k - 1) = stOf S p (k - 1))
    (h2 : (evq ps p k).kind = 3 → stOf S' (sndr ps (evq ps p k).msg).1.toNat ((sndr ps (evq ps p k).msg).2 - 1).toNat = stOf S (sndr ps (evq ps p k).msg).1.toNat ((sndr ps (evq ps p k).msg).2 - 1).toNat) : vecV ps S' p k = vecV ps S p k := by
  have e1 : preV ps S' p k = preV ps S p k := by
    unfold preV
    by_cases h : k = 0
    · rw [if_pos h, if_pos h]
    · rw [if_neg h, if_neg h, h1 h]
  unfold vecV rawV
  rw [e1]
  by_cases h : (evq ps p k).kind = 3
  · rw [if_pos h, if_pos h, h2 h]
  · rw [if_neg h, if_neg h]
/-- Each stamp is made of the one before it and the sender's. -/
theorem Gen.eqn {ps : List Pr} {S : Nat → List (List Int)} (h : Gen ps S) : ∀ p k, k < (S p).length → p < ps.length ∧ k < nev ps p ∧ stOf S p k = vecV ps S p k ∧
    ((evq ps p k).kind = 3 → 0 < (sndr ps (evq ps p k).msg).2 ∧ (sndr ps (evq ps p k).msg).2 ≤ (S (sndr ps (evq ps p k).msg).1.toNat).length) := by
  induction h with
  | init => intro p k h; simp at h
  | @step S r h hr ih =>
    intro p k hk
    have hle := fun q => upS_le S r (vecV ps S r (S r).length) q
    by_cases hold : k < (S p).length
    · obtain ⟨h1, h2, h3, h4⟩ := ih p k hold
      refine ⟨h1, h2, ?_, fun h => ⟨(h4 h).1, by have := (h4 h).2; have := hle (sndr ps (evq ps p k).msg).1.toNat; omega⟩⟩
      rw [upS_old hold, h3]
      refine (vecV_congr (fun h0 => upS_old (by omega)) fun h => upS_old ?_).symm
      have := h4 h; omega
    · rw [upS_len] at hk
      by_cases e : p = r
      · subst e
        rw [if_pos rfl] at hk
        have ek : k = (S p).length := by omega
        subst ek
        obtain ⟨h1, h2, h3⟩ := hr
        simp only [lenS] at h2 h3
        refine ⟨h1, h2, ?_, fun h => ⟨(h3 h).1, by have := (h3 h).2; have := hle (sndr ps (evq ps p (S p).length).msg).1.toNat; omega⟩⟩
        rw [upS_new]
        refine (vecV_congr (fun h0 => upS_old (by omega)) fun h => upS_old ?_).symm
        have := h3 h; omega
      · rw [if_neg e] at hk; exact absurd hk hold
theorem Gen.le_nev {ps : List Pr} {S : Nat → List (List Int)} (h : Gen ps S) (p : Nat) : (S p).length ≤ nev ps p := by
  by_cases h0 : (S p).length = 0
  · omega
  · have := (h.eqn p ((S p).length - 1) (by omega)).2.1; omega
theorem Gen.out {ps : List Pr} {S : Nat → List (List Int)} (h : Gen ps S) {p : Nat} (hp : ¬ p < ps.length) : S p = [] := by
  by_cases h0 : (S p).length = 0
  · exact List.eq_nil_of_length_eq_zero h0
  · exact absurd (h.eqn p ((S p).length - 1) (by omega)).1 hp
/-- What is generated is the beginning of whatever can't go on. -/
theorem Gen.le {ps : List Pr} {S S' : Nat → List (List Int)} (h : Gen ps S) (h' : Gen ps S') (hm : ∀ p, ¬ Rdy ps (lenS S') p) : ∀ p, (S p).length ≤ (S' p).length ∧ ∀ k, k < (S p).length → stOf S p k = stOf S' p k := by
  induction h with
  | init => intro p; exact ⟨Nat.zero_le _, fun k hk => by simp at hk⟩
  | @step S r h hr ih =>
    have hlt : (S r).length < (S' r).length := by
      refine Nat.lt_of_le_of_ne (ih r).1 fun e => hm r ?_
      exact hr.mono (fun q => (ih q).1) e.symm
    intro p
    rw [upS_len]
    by_cases e : p = r
    · subst e
      rw [if_pos rfl]
      refine ⟨hlt, fun k hk => ?_⟩
      by_cases hold : k < (S p).length
      · rw [upS_old hold]; exact (ih p).2 k hold
      · have ek : k = (S p).length := by omega
        subst ek
        rw [upS_new, (h'.eqn p _ hlt).2.2.1]
        refine vecV_congr (fun h0 => (ih p).2 _ (by omega)) fun hk => (ih _).2 _ ?_
        have := hr.2.2 hk
        simp only [lenS] at this
        omega
    · rw [if_neg e]
      refine ⟨(ih p).1, fun k hk => ?_⟩
      rw [upS_old hk]; exact (ih p).2 k hk
theorem Gen.unique {ps : List Pr} {S S' : Nat → List (List Int)} (h : Gen ps S) (hm : ∀ p, ¬ Rdy ps (lenS S) p) (h' : Gen ps S') (hm' : ∀ p, ¬ Rdy ps (lenS S') p) : S = S' := by
  funext p
  have h1 := h.le h' hm' p
  have h2 := h'.le h hm p
  refine List.ext_getElem (by omega) fun k k1 k2 => ?_
  have := h1.2 k k1
  simpa [stOf, k1, k2] using this
open Classical in
noncomputable def stampF (ps : List Pr) : Nat → List (List Int) := if h : ∃ S, Gen ps S ∧ ∀ p, ¬ Rdy ps (lenS S) p then Classical.choose h else fun _ => []
theorem stampF_eq {ps : List Pr} {S : Nat → List (List Int)} (h : Gen ps S) (hm : ∀ p, ¬ Rdy ps (lenS S) p) : stampF ps = S := by
  have hx : ∃ S, Gen ps S ∧ ∀ p, ¬ Rdy ps (lenS S) p := ⟨S, h, hm⟩
  have e : stampF ps = Classical.choose hx := dif_pos hx
  rw [e]
  exact (Classical.choose_spec hx).1.unique (Classical.choose_spec hx).2 h hm
theorem zeros_getD (n j : Nat) : (List.replicate n (0 : Int)).getD j 0 = 0 := by
  rw [List.getD_eq_getElem?_getD, List.getElem?_replicate]
  split <;> rfl
theorem tickV_getD (v : List Int) (p j : Nat) : (tickV v p).getD j 0 = if p = j ∧ p < v.length then v.getD p 0 + 1 else v.getD j 0 := getD_set0 v p j _
/-- Bounds that hold of what goes before hold of a new stamp. -/
theorem vecV_bound {ps : List Pr} {S : Nat → List (List Int)} {p k : Nat} {B : Nat → Int} (hB : ∀ j, 0 ≤ B j) (h1 : k ≠ 0 → (stOf S p (k - 1)).length = ps.length ∧ ∀ j, 0 ≤ (stOf S p (k - 1)).getD j 0 ∧ (stOf S p (k - 1)).getD j 0 ≤ B j)
    (h2 : (evq ps p k).kind = 3 → (stOf S (sndr ps (evq ps p k).msg).1.toNat ((sndr ps (evq ps p k).msg).2 - 1).toNat).length = ps.length ∧
      ∀ j, 0 ≤ (stOf S (sndr ps (evq ps p k).msg).1.toNat ((sndr ps (evq ps p k).msg).2 - 1).toNat).getD j 0 ∧ (stOf S (sndr ps (evq ps p k).msg).1.toNat ((sndr ps (evq ps p k).msg).2 - 1).toNat).getD j 0 ≤ B j) :
    (rawV ps S p k).length = ps.length ∧ (∀ j, 0 ≤ (rawV ps S p k).getD j 0 ∧ (rawV ps S p k).getD j 0 ≤ B j) ∧ (vecV ps S p k).length = ps.length ∧ ∀ j, 0 ≤ (vecV ps S p k).getD j 0 ∧ (vecV ps S p k).getD j 0 ≤ B j + (if p = j then 1 else 0) := by
  have hpre : (preV ps S p k).length = ps.length ∧ ∀ j, 0 ≤ (preV ps S p k).getD j 0 ∧ (preV ps S p k).getD j 0 ≤ B j := by
    unfold preV
    by_cases h : k = 0
    · rw [if_pos h]; exact ⟨by simp, fun j => by rw [zeros_getD]; exact ⟨Int.le_refl _, hB j⟩⟩
    · rw [if_neg h]; exact h1 h
  have hraw : (rawV ps S p k).length = ps.length ∧ ∀ j, 0 ≤ (rawV ps S p k).getD j 0 ∧ (rawV ps S p k).getD j 0 ≤ B j := by
    unfold rawV
    by_cases h : (evq ps p k).kind = 3
    · rw [if_pos h]
      obtain ⟨g1, g2⟩ := h2 h
      have hl : (preV ps S p k).length = (stOf S (sndr ps (evq ps p k).msg).1.toNat ((sndr ps (evq ps p k).msg).2 - 1).toNat).length := by rw [hpre.1, g1]
      refine ⟨(joinV_length hl).trans hpre.1, fun j => ?_⟩
      rw [joinV_getD hl]
      have a := hpre.2 j
      have b := g2 j
      omega
    · rw [if_neg h]; exact hpre
  refine ⟨hraw.1, hraw.2, (tickV_length _ _).trans hraw.1, fun j => ?_⟩
  unfold vecV
  rw [tickV_getD]
  have a := hraw.2 j
  by_cases h : p = j
  · subst h
    rw [if_pos rfl]
    split <;> omega
  · rw [if_neg h, if_neg fun h' => h h'.1]; omega
theorem Gen.bound {ps : List Pr} {S : Nat → List (List Int)} (h : Gen ps S) : ∀ p k, k < (S p).length → (stOf S p k).length = ps.length ∧ ∀ j, 0 ≤ (stOf S p k).getD j 0 ∧ (stOf S p k).getD j 0 ≤ (S j).length := by
  induction h with
  | init => intro p k h; simp at h
  | @step S r h hr ih =>
    intro p k hk
    by_cases hold : k < (S p).length
    · rw [upS_old hold]
      obtain ⟨h1, h2⟩ := ih p k hold
      refine ⟨h1, fun j => ?_⟩
      have := upS_le S r (vecV ps S r (S r).length) j
      have := h2 j
      omega
    · rw [upS_len] at hk
      by_cases e : p = r
      · subst e
        rw [if_pos rfl] at hk
        have ek : k = (S p).length := by omega
        subst ek
        rw [upS_new]
        have hb := vecV_bound (ps := ps) (S := S) (p := p) (k := (S p).length) (B := fun j => ((S j).length : Int)) (fun j => by simp) (fun h0 => ih p _ (by omega)) (fun h3 => by
          have := hr.2.2 h3
          simp only [lenS] at this
          exact ih _ _ (by omega))
        refine ⟨hb.2.2.1, fun j => ?_⟩
        have := hb.2.2.2 j
        rw [upS_len]
        by_cases e : j = p
        · subst e; rw [if_pos rfl] at this; rw [if_pos rfl]; omega
        · rw [if_neg (Ne.symm e)] at this; rw [if_neg e]; omega
      · rw [if_neg e] at hk; exact absurd hk hold
/-- What is known of a new stamp's parts when it is made. -/
theorem Gen.next {ps : List Pr} {S : Nat → List (List Int)} (h : Gen ps S) {p : Nat} (hr : Rdy ps (lenS S) p) : (rawV ps S p (S p).length).length = ps.length ∧ ∀ j, 0 ≤ (rawV ps S p (S p).length).getD j 0 ∧ (rawV ps S p (S p).length).getD j 0 ≤ (S j).length := by
  have hb := vecV_bound (ps := ps) (S := S) (p := p) (k := (S p).length) (B := fun j => ((S j).length : Int)) (fun j => by simp) (fun h0 => h.bound p _ (by omega)) (fun h3 => by
    have := hr.2.2 h3
    simp only [lenS] at this
    exact h.bound _ _ (by omega))
  exact ⟨hb.1, hb.2.1⟩
/-! ### Executions in an order -/
def doneF (order : List Int) (k : Nat) : Nat → Nat := fun q => (order.take k).count (q : Int)
def RunOk (ps : List Pr) (order : List Int) (k : Nat) : Prop := ∀ j, j < k → 0 ≤ order.getD j 0 ∧ Rdy ps (doneF order j) (order.getD j 0).toNat
end Go.AL
end
section
/- Vector clocks, plainly: senders, sums, and what is kept in an execution. No condition. -/
namespace Go.AL
open Go Go.RowKit
set_option maxRecDepth 4000
theorem valid_parts {ps : List Pr} (h : validF ps = true) : procFirst ps = none ∧ evFirst ps = none ∧ msgF ps = none := by
  have hp : ∀ x, procFirst ps = some x → x.2 ≠ 0 := fun x hx => by
    unfold procFirst at hx
    rw [Option.map_eq_some_iff] at hx
    obtain ⟨k, hk, rfl⟩ := hx
    simpa using List.find?_some hk
  have he : ∀ x, evFirst ps = some x → x.2 ≠ 0 := fun x hx => by
    unfold evFirst at hx
    rw [Option.map_eq_some_iff] at hx
    obtain ⟨k, hk, rfl⟩ := hx
    simpa using List.find?_some hk
  have hmm : ∀ x, msgF ps = some x → x.2 ≠ 0 := fun x hx => by
    unfold msgF at hx
    split at hx
    · rename_i k hk
      cases hx
      simpa using List.find?_some hk
    · cases hx
  unfold validF faultF at h
  simp only [decide_eq_true_eq] at h
  split at h
  · simp at h
  · cases hpf : procFirst ps with
    | some x => rw [hpf] at h; exact absurd h (hp x hpf)
    | none =>
      rw [hpf] at h
      cases hef : evFirst ps with
      | some x => rw [hef] at h; exact absurd h (he x hef)
      | none =>
        rw [hef] at h
        cases hmf : msgF ps with
        | some x => rw [hmf] at h; exact absurd h (hmm x hmf)
        | none => exact ⟨rfl, rfl, rfl⟩
/-- No two events send one number. -/
theorem valid_unique {ps : List Pr} (h : validF ps = true) {p : Nat} (hp : p < ps.length) {i : Nat} (hi : i < ps[p].evs.length) (hk : ps[p].evs[i].kind = 2) : sndr ps ps[p].evs[i].msg = ((p : Int), (i : Int) + 1) := by
  have hev := evIds_get hp hi
  have hlt : off ps p + i < (evIds ps).length := (List.getElem?_eq_some_iff.1 hev).1
  have hpz : pairF ps (off ps p + i) = 0 := by
    have hm := (valid_parts h).2.2
    unfold msgF at hm
    split at hm
    · cases hm
    · rename_i hn
      rw [List.find?_eq_none] at hn
      simpa using hn _ (List.mem_range.2 hlt)
  unfold pairF at hpz
  rw [hev] at hpz
  simp only [hk, if_true] at hpz
  have hno : ¬ 0 < (findIn ((evIds ps).take (off ps p + i)) 2 ps[p].evs[i].msg).2 := by
    intro h0; rw [if_pos h0] at hpz; cases hpz
  unfold sndr
  refine findIn_hit hev (fun j y hj hy hc => hno ?_) ⟨hk, rfl⟩
  have hmem : y ∈ (evIds ps).take (off ps p + i) := by
    refine List.mem_of_getElem? (i := j) ?_
    rw [List.getElem?_take, if_pos hj]; exact hy
  unfold findIn
  cases hf : ((evIds ps).take (off ps p + i)).find? (fun x => decide (x.2.kind = 2) && decide (x.2.msg = ps[p].evs[i].msg)) with
  | some x => exact evIds_pos ps x (List.mem_of_mem_take (List.mem_of_find?_eq_some hf))
  | none =>
    rw [List.find?_eq_none] at hf
    have := hf y hmem
    simp [hc.1, hc.2] at this
theorem sndr_some {ps : List Pr} {m : Int} (h : 0 < (sndr ps m).2) : ∃ (p : Nat) (hp : p < ps.length) (i : Nat) (hi : i < ps[p].evs.length), sndr ps m = ((p : Int), (i : Int) + 1) ∧ ps[p].evs[i].kind = 2 ∧ ps[p].evs[i].msg = m := by
  obtain ⟨e, he, h1, h2⟩ := findIn_mem h
  obtain ⟨k, hk⟩ := List.getElem?_of_mem he
  obtain ⟨p, hp, i, hi, _, e2⟩ := evIds_inv hk
  have e3 := congrArg Prod.fst e2
  have e4 := congrArg Prod.snd e2
  dsimp only at e3 e4
  subst e4
  exact ⟨p, hp, i, hi, e3, h1, h2⟩
/-- What lies in the table of messages sent. -/
def sentA (ps : List Pr) (S : Nat → List (List Int)) (m : Int) : AV :=
  if 0 < (sndr ps m).2 ∧ (sndr ps m).2 ≤ (S (sndr ps m).1.toNat).length then aInts (stOf S (sndr ps m).1.toNat ((sndr ps m).2 - 1).toNat) else anil
def totS (n : Nat) (c : Nat → Nat) : Nat := ((List.range n).map c).sum
theorem totS_succ (n : Nat) (c : Nat → Nat) : totS (n + 1) c = totS n c + c n := by simp [totS, List.range_succ]
theorem totS_bump {c c' : Nat → Nat} {p : Nat} (h : ∀ q, c' q = if q = p then c q + 1 else c q) (n : Nat) : totS n c' = totS n c + if p < n then 1 else 0 := by
  induction n with
  | zero => simp [totS]
  | succ n ih =>
    rw [totS_succ, totS_succ, ih, h n]
    by_cases e : n = p
    · subst e; rw [if_pos rfl, if_neg (by omega), if_pos (by omega)]; omega
    · rw [if_neg e]
      by_cases h1 : p < n
      · rw [if_pos h1, if_pos (by omega)]; omega
      · rw [if_neg h1, if_neg (by omega)]; omega
theorem totS_up {S : Nat → List (List Int)} {p n : Nat} (hp : p < n) (v : List Int) : totS n (lenS (upS S p v)) = totS n (lenS S) + 1 := by
  rw [totS_bump (c := lenS S) (p := p) (fun q => by unfold lenS; rw [upS_len]; split <;> simp_all) n, if_pos hp]
theorem totS_le {c : Nat → Nat} {B : Nat} (n : Nat) (h : ∀ q, q < n → c q ≤ B) : totS n c ≤ n * B := by
  induction n with
  | zero => simp [totS]
  | succ n ih =>
    rw [totS_succ, Nat.add_mul]
    have := ih fun q hq => h q (by omega)
    have := h n (by omega)
    omega
theorem gen_exists {ps : List Pr} (hs : Sm ps) : ∃ S, Gen ps S ∧ ∀ p, ¬ Rdy ps (lenS S) p := by
  have hb : ∀ S, Gen ps S → totS ps.length (lenS S) ≤ ps.length * 1000000 := fun S h => totS_le _ fun q hq => by
    have h1 := h.le_nev q
    rw [nev_get hq] at h1
    have h2 := hs.evs _ (List.getElem_mem hq)
    unfold lenS; omega
  have key : ∀ m S, Gen ps S → ps.length * 1000000 - totS ps.length (lenS S) ≤ m → ∃ S, Gen ps S ∧ ∀ p, ¬ Rdy ps (lenS S) p := by
    intro m
    induction m with
    | zero =>
      intro S h hm
      refine ⟨S, h, fun p hr => ?_⟩
      have h1 := hb _ (h.step hr)
      rw [totS_up hr.1] at h1
      omega
    | succ m ih =>
      intro S h hm
      by_cases hx : ∃ p, Rdy ps (lenS S) p
      · obtain ⟨p, hr⟩ := hx
        refine ih _ (h.step hr) ?_
        rw [totS_up hr.1]
        omega
      · exact ⟨S, h, fun p hr => hx ⟨p, hr⟩⟩
  exact key _ _ .init (Nat.le_refl _)
theorem stampF_gen {ps : List Pr} (hs : Sm ps) : Gen ps (stampF ps) ∧ ∀ p, ¬ Rdy ps (lenS (stampF ps)) p := by
  obtain ⟨S, h, hm⟩ := gen_exists hs
  rw [stampF_eq h hm]; exact ⟨h, hm⟩
/-! ### What is kept -/
theorem sum_nonneg : ∀ (Z : List Int), (∀ z ∈ Z, 0 ≤ z) → 0 ≤ Z.sum
  | [], _ => by simp
  | z :: Z, h => by
    have h1 := h z (by simp)
    have h2 := sum_nonneg Z fun z hz => h z (List.mem_cons_of_mem _ hz)
    simp only [List.sum_cons]; omega
theorem sum_ge : ∀ (Z : List Int) {x : Int}, (∀ z ∈ Z, 0 ≤ z) → x ∈ Z → x ≤ Z.sum
  | [], _, _, hx => by cases hx
  | z :: Z, x, h, hx => by
    have h1 := h z (by simp)
    have h2 := sum_nonneg Z fun z hz => h z (List.mem_cons_of_mem _ hz)
    simp only [List.sum_cons]
    rcases List.mem_cons.1 hx with rfl | hx
    · omega
    · have := sum_ge Z (fun z hz => h z (List.mem_cons_of_mem _ hz)) hx; omega
noncomputable def knownF (ps : List Pr) (order : List Int) (k : Nat) : List (List Int) :=
  (List.range ps.length).map fun q => if doneF order k q = 0 then List.replicate ps.length 0 else stOf (stampF ps) q (doneF order k q - 1)
noncomputable def peakF (ps : List Pr) (order : List Int) : Nat → Int
  | 0 => 0
  | k + 1 => max (peakF ps order k) (keptF (knownF ps order (k + 1)))
theorem RunOk.le {ps : List Pr} {order : List Int} {k j : Nat} (h : RunOk ps order k) (hj : j ≤ k) : RunOk ps order j := fun i hi => h i (by omega)
end Go.AL
end
section
/- Traces whose events can all be executed have no cycle; what comes directly before an event. No condition. -/
namespace Go.AL
open Go Go.RowKit
set_option maxRecDepth 4000
/-- No two events of one kind, send or receive, bear one number. -/
theorem pair_unique {ps : List Pr} (hm : msgF ps = none) {p : Nat} (hp : p < ps.length) {i : Nat} (hi : i < ps[p].evs.length) (hk : ps[p].evs[i].kind = 2 ∨ ps[p].evs[i].kind = 3) :
    findIn (evIds ps) ps[p].evs[i].kind ps[p].evs[i].msg = ((p : Int), (i : Int) + 1) := by
  have hev := evIds_get hp hi
  have hlt : off ps p + i < (evIds ps).length := (List.getElem?_eq_some_iff.1 hev).1
  have hpz : pairF ps (off ps p + i) = 0 := by
    unfold msgF at hm
    split at hm
    · cases hm
    · rename_i hn
      rw [List.find?_eq_none] at hn
      simpa using hn _ (List.mem_range.2 hlt)
  unfold pairF at hpz
  rw [hev] at hpz
  simp only at hpz
  have hno : ¬ 0 < (findIn ((evIds ps).take (off ps p + i)) ps[p].evs[i].kind ps[p].evs[i].msg).2 := by
    intro h0
    rcases hk with hk | hk
    · rw [if_pos hk] at hpz; rw [hk] at h0; rw [if_pos h0] at hpz; cases hpz
    · rw [if_neg (by omega), if_pos hk] at hpz; rw [hk] at h0; rw [if_pos h0] at hpz; cases hpz
  refine findIn_hit hev (fun j y hj hy hc => hno ?_) ⟨rfl, rfl⟩
  have hmem : y ∈ (evIds ps).take (off ps p + i) := by
    refine List.mem_of_getElem? (i := j) ?_
    rw [List.getElem?_take, if_pos hj]; exact hy
  unfold findIn
  cases hf : ((evIds ps).take (off ps p + i)).find? (fun x => decide (x.2.kind = ps[p].evs[i].kind) && decide (x.2.msg = ps[p].evs[i].msg)) with
  | some x => exact evIds_pos ps x (List.mem_of_mem_take (List.mem_of_find?_eq_some hf))
  | none =>
    rw [List.find?_eq_none] at hf
    have := hf y hmem
    simp [hc.1, hc.2] at this
theorem findIn_some {ps : List Pr} {kind m : Int} (h : 0 < (findIn (evIds ps) kind m).2) : ∃ (p : Nat) (hp : p < ps.length) (i : Nat) (hi : i < ps[p].evs.length), findIn (evIds ps) kind m = ((p : Int), (i : Int) + 1) ∧ ps[p].evs[i].kind = kind ∧ ps[p].evs[i].msg = m := by
  obtain ⟨e, he, h1, h2⟩ := findIn_mem h
  obtain ⟨k, hk⟩ := List.getElem?_of_mem he
  obtain ⟨p, hp, i, hi, _, e2⟩ := evIds_inv hk
  have e3 := congrArg Prod.fst e2
  have e4 := congrArg Prod.snd e2
  dsimp only at e3 e4
  subst e4
  exact ⟨p, hp, i, hi, e3, h1, h2⟩
/-- A receive has its send. -/
theorem recv_sndr {ps : List Pr} (hm : msgF ps = none) {p : Nat} (hp : p < ps.length) {i : Nat} (hi : i < ps[p].evs.length) (hk : ps[p].evs[i].kind = 3) : 0 < (sndr ps ps[p].evs[i].msg).2 := by
  have hev := evIds_get hp hi
  have hlt : off ps p + i < (evIds ps).length := (List.getElem?_eq_some_iff.1 hev).1
  have hpz : pairF ps (off ps p + i) = 0 := by
    unfold msgF at hm
    split at hm
    · cases hm
    · rename_i hn
      rw [List.find?_eq_none] at hn
      simpa using hn _ (List.mem_range.2 hlt)
  unfold pairF at hpz
  rw [hev] at hpz
  simp only at hpz
  rw [if_neg (by omega), if_pos hk] at hpz
  split at hpz
  · cases hpz
  · split at hpz
    · cases hpz
    · rename_i hs
      have hs' : sendsB ps ps[p].evs[i].peer ps[p].evs[i].msg p = true := by simpa using hs
      unfold sendsB at hs'
      split at hs'
      · rename_i x hx
        obtain ⟨q, hq, rfl⟩ : ∃ q, ∃ hq : q < ps.length, ps[q] = x := ⟨_, (List.getElem?_eq_some_iff.1 hx).1, (List.getElem?_eq_some_iff.1 hx).2⟩
        obtain ⟨e, he, h⟩ := List.any_eq_true.1 hs'
        simp only [Bool.and_eq_true, decide_eq_true_eq] at h
        obtain ⟨j, hj, rfl⟩ := List.getElem_of_mem he
        have hu := pair_unique hm hq hj (.inl h.1.1)
        unfold sndr
        rw [← h.1.2, ← h.1.1, hu]
        show (0 : Int) < (j : Int) + 1
        omega
      · cases hs'
/-- The events directly before one. -/
def dirL (ps : List Pr) (p i : Nat) : List Eid := (if 0 < i then [((p : Int), (i : Int))] else []) ++ (if (evq ps p i).kind = 3 then [sndr ps (evq ps p i).msg] else [])
theorem dirL_iff {ps : List Pr} (hm : msgF ps = none) {p : Nat} (hp : p < ps.length) {i : Nat} (hi : i < ps[p].evs.length) (z : Eid) : z ∈ dirL ps p i ↔ VEv ps z ∧ Nx ps z ((p : Int), (i : Int) + 1) := by
  unfold dirL
  rw [evq_get hp hi, List.mem_append]
  constructor
  · rintro (h | h)
    · split at h
      · rename_i h0
        simp only [List.mem_singleton] at h
        subst h
        refine ⟨⟨p, hp, i - 1, by omega, by rw [show ((i - 1 : Nat) : Int) + 1 = i by omega]⟩, ?_⟩
        unfold Nx afterL
        simp only [Int.toNat_natCast, List.getElem?_eq_getElem hp, show ((i : Int) - 1).toNat = i - 1 by omega, List.getElem?_eq_getElem (show i - 1 < ps[p].evs.length by omega), List.mem_append]
        refine .inl ?_
        rw [if_pos (by omega)]; simp
      · cases h
    · split at h
      · rename_i hk
        simp only [List.mem_singleton] at h
        have h0 := recv_sndr hm hp hi hk
        obtain ⟨q, hq, j, hj, e, k1, k2⟩ := sndr_some h0
        rw [h, e]
        refine ⟨⟨q, hq, j, hj, rfl⟩, ?_⟩
        unfold Nx afterL
        simp only [Int.toNat_natCast, List.getElem?_eq_getElem hq, show ((j : Int) + 1 - 1).toNat = j by omega, List.getElem?_eq_getElem hj, List.mem_append]
        refine .inr ?_
        have hu := pair_unique hm hp hi (.inr hk)
        rw [hk] at hu
        rw [k2, hu, if_pos ⟨k1, by show (0 : Int) < (i : Int) + 1; omega⟩]; simp
      · cases h
  · rintro ⟨⟨q, hq, j, hj, rfl⟩, h⟩
    unfold Nx afterL at h
    simp only [Int.toNat_natCast, List.getElem?_eq_getElem hq, show ((j : Int) + 1 - 1).toNat = j by omega, List.getElem?_eq_getElem hj, List.mem_append] at h
    rcases h with h | h
    · split at h
      · simp only [List.mem_singleton, Prod.mk.injEq] at h
        have e1 : p = q := by omega
        have e2 : i = j + 1 := by omega
        subst e1; subst e2
        refine .inl ?_
        rw [if_pos (by omega)]; simp
      · cases h
    · split at h
      · rename_i hc
        simp only [List.mem_singleton] at h
        obtain ⟨p', hp', i', hi', e, k1, k2⟩ := findIn_some hc.2
        rw [e, Prod.mk.injEq] at h
        have e1 : p = p' := by omega
        have e2 : i = i' := by omega
        subst e1; subst e2
        refine .inr ?_
        rw [if_pos k1, k2]
        have hu := pair_unique hm hq hj (.inl hc.1)
        rw [hc.1] at hu
        unfold sndr
        rw [hu]; simp
      · cases h
/-! ### Ranks -/
theorem Reach.rank {ps : List Pr} {f : Eid → Int} (h : ∀ x, VEv ps x → ∀ y ∈ afterL ps x, f x < f y) {x y : Eid} (hr : Reach ps x y) (hx : VEv ps x) : f x < f y := by
  have key : f x < f y ∧ VEv ps y := by
    induction hr with
    | single hn => exact ⟨h _ hx _ hn, Reach.valid (.single hn) hx⟩
    | tail hr hn ih => exact ⟨Int.lt_trans ih.1 (h _ ih.2 _ hn), Reach.valid (.single hn) ih.2⟩
  exact key.1
/-- No cycle where a rank grows along the edges. -/
theorem cycF_rank {ps : List Pr} (f : Eid → Int) (h : ∀ x ∈ evIds ps, ∀ y ∈ afterL ps x.1, f x.1 < f y) : cycF ps = none := by
  have hv : ∀ x, VEv ps x → ∀ y ∈ afterL ps x, f x < f y := by
    rintro x ⟨p, hp, i, hi, rfl⟩ y hy
    exact h _ (List.mem_of_getElem? (evIds_get hp hi)) y hy
  refine cycF_none fun j y hj hr => ?_
  obtain ⟨p, hp, i, hi, _, rfl⟩ := evIds_inv hj
  exact Int.lt_irrefl _ (hr.rank hv ⟨p, hp, i, hi, rfl⟩)

theorem sum_mono : ∀ (v w : List Int), v.length = w.length → (∀ j, v.getD j 0 ≤ w.getD j 0) → v.sum ≤ w.sum
  | [], [], _, _ => Int.le_refl _
  | [], _ :: _, h, _ => by simp at h
  | _ :: _, [], h, _ => by simp at h
  | a :: v, b :: w, h, hj => by
    have h0 := hj 0
    have ih := sum_mono v w (by simpa using h) fun j => by simpa using hj (j + 1)
    simp only [List.getD_cons_zero] at h0
    simp only [List.sum_cons]; omega
theorem sum_set : ∀ (v : List Int) (p : Nat) (x : Int), p < v.length → (v.set p x).sum = v.sum - v.getD p 0 + x
  | [], p, x, h => by simp at h
  | a :: v, 0, x, _ => by simp only [List.set_cons_zero, List.sum_cons, List.getD_cons_zero]; omega
  | a :: v, p + 1, x, h => by
    have ih := sum_set v p x (by simpa using h)
    simp only [List.set_cons_succ, List.sum_cons, List.getD_cons_succ, ih]; omega
theorem vec_grow {ps : List Pr} {S : Nat → List (List Int)} {p k : Nat} {u : List Int} (hp : p < ps.length) (hl : (rawV ps S p k).length = ps.length) (hu : u.length = ps.length) (h : ∀ j, u.getD j 0 ≤ (rawV ps S p k).getD j 0) : u.sum < (vecV ps S p k).sum := by
  unfold vecV tickV
  rw [sum_set _ _ _ (by omega)]
  have := sum_mono u (rawV ps S p k) (by omega) h
  omega
theorem Gen.raw {ps : List Pr} {S : Nat → List (List Int)} (h : Gen ps S) {p k : Nat} (hk : k < (S p).length) : (rawV ps S p k).length = ps.length ∧ (k ≠ 0 → ∀ j, (stOf S p (k - 1)).getD j 0 ≤ (rawV ps S p k).getD j 0) ∧
    ((evq ps p k).kind = 3 → ∀ j, (stOf S (sndr ps (evq ps p k).msg).1.toNat ((sndr ps (evq ps p k).msg).2 - 1).toNat).getD j 0 ≤ (rawV ps S p k).getD j 0) := by
  obtain ⟨_, _, _, h4⟩ := h.eqn p k hk
  have hpre : (preV ps S p k).length = ps.length := by
    unfold preV
    by_cases h0 : k = 0
    · rw [if_pos h0]; simp
    · rw [if_neg h0]; exact (h.bound p _ (by omega)).1
  unfold rawV
  by_cases h3 : (evq ps p k).kind = 3
  · have hw := h.bound (sndr ps (evq ps p k).msg).1.toNat ((sndr ps (evq ps p k).msg).2 - 1).toNat (by have := h4 h3; omega)
    have hl : (preV ps S p k).length = (stOf S (sndr ps (evq ps p k).msg).1.toNat ((sndr ps (evq ps p k).msg).2 - 1).toNat).length := by rw [hpre, hw.1]
    rw [if_pos h3]
    refine ⟨(joinV_length hl).trans hpre, fun h0 j => ?_, fun _ j => ?_⟩
    · rw [joinV_getD hl]
      have e : preV ps S p k = stOf S p (k - 1) := by unfold preV; rw [if_neg h0]
      rw [e]; omega
    · rw [joinV_getD hl]; omega
  · rw [if_neg h3]
    refine ⟨hpre, fun h0 j => ?_, fun h => absurd h h3⟩
    have e : preV ps S p k = stOf S p (k - 1) := by unfold preV; rw [if_neg h0]
    rw [e]; exact Int.le_refl _
/-- Where all events have stamps there is no cycle. -/
theorem cycF_of_stamps {ps : List Pr} (hm : msgF ps = none) {S : Nat → List (List Int)} (h : Gen ps S) (hall : ∀ p, p < ps.length → nev ps p ≤ (S p).length) : cycF ps = none := by
  refine cycF_rank (fun x => (stOf S x.1.toNat (x.2 - 1).toNat).sum) fun x hx y hy => ?_
  obtain ⟨p, hp, i, hi, rfl⟩ := Nx.valid hy (VEv.of_mem hx)
  obtain ⟨q, hq, j, hj, hxe⟩ := VEv.of_mem hx
  have hin : x.1 ∈ dirL ps p i := (dirL_iff hm hp hi x.1).2 ⟨VEv.of_mem hx, hy⟩
  have hlt : i < (S p).length := by have := hall p hp; rw [nev_get hp] at this; omega
  have hlx : j < (S q).length := by have := hall q hq; rw [nev_get hq] at this; omega
  obtain ⟨r1, r2, r3⟩ := h.raw hlt
  have hbx := h.bound q j hlx
  simp only [Int.toNat_natCast, show ((i : Int) + 1 - 1).toNat = i by omega]
  rw [(h.eqn p i hlt).2.2.1]
  unfold dirL at hin
  rw [List.mem_append] at hin
  rcases hin with hin | hin
  · split at hin
    · rename_i h0
      simp only [List.mem_singleton] at hin
      rw [hin]
      simp only [Int.toNat_natCast, show ((i : Int) - 1).toNat = i - 1 by omega]
      exact vec_grow hp r1 (h.bound p _ (by omega)).1 (r2 (by omega))
    · cases hin
  · split at hin
    · rename_i h3
      simp only [List.mem_singleton] at hin
      rw [hxe] at hin
      have e3 := r3 h3
      rw [← hin] at e3
      simp only [Int.toNat_natCast, show ((j : Int) + 1 - 1).toNat = j by omega] at e3
      rw [hxe]
      simp only [Int.toNat_natCast, show ((j : Int) + 1 - 1).toNat = j by omega]
      exact vec_grow hp r1 hbx.1 e3
    · cases hin
end Go.AL
end
section
/- The reference of layer 12, second part: the form of events; finding events; pairs. No condition. -/
namespace Go.AL
open Go Go.RowKit
set_option maxRecDepth 4000
theorem ref12_Find (ps : List Pr) (hs : Sm ps) (kind m : Int) : PC Go.Proofs.Tryz.prog 99 [aTr ps, ai kind, ai m] (aEid (findIn (evIds ps) kind m)) := by
  have hl := hs.procs
  refine PC.enter 52 [.cell 6 66] [3, 9] Go.Proofs.Tryz.func99 rfl rfl rfl rfl rfl (by simp) (AWp.of ?_); simp only [go_sem]
  intro b6
  repeat (first | ((with_reducible refine AWp.ofC ?_ ?_); (focus exact rfl); simp only [go_sem]) | ((with_reducible refine an ?_ ?_); focus exact Au))
  refine AWp.block (AWp.count 7 ps.length [] [1, 2, 3, 6] (fun p vs L => L = [(b6, .row 66 2 [aEid (0, 0)] 1)] ∧ ∀ (j : Nat) (y : Eid × Ev), j < off ps p → (evIds ps)[j]? = some y → ¬ (y.2.kind = kind ∧ y.2.msg = m)) rfl rfl ⟨by simp [aEid], by simp [off]⟩ ?_)
  rintro p vs L hp - ⟨rfl, hI⟩
  simp only [go_sem]
  repeat (first | ((with_reducible refine AWp.ofC ?_ ?_); (focus exact rfl); simp only [go_sem]) | ((with_reducible refine an ?_ ?_); focus exact Au))
  refine ⟨fun h1 => ?_, fun h1 => ?_⟩
  · have hpp : p < ps.length := by omega
    have hel := hs.evs _ (List.getElem_mem hpp)
    repeat (first | ((with_reducible refine AWp.ofC ?_ ?_); (focus exact rfl); simp only [go_sem]) | ((with_reducible refine an ?_ ?_); focus exact Au))
    refine AWp.block (AWp.count 8 ps[p].evs.length [] [1, 2, 3, 6, 7] (fun i vs L => L = [(b6, .row 66 2 [aEid (0, 0)] 1)] ∧ ∀ (j : Nat) (y : Eid × Ev), j < off ps p + i → (evIds ps)[j]? = some y → ¬ (y.2.kind = kind ∧ y.2.msg = m)) rfl rfl ⟨rfl, hI⟩ ?_)
    rintro i vs L hi - ⟨rfl, hJ⟩
    simp only [go_sem]
    repeat (first | ((with_reducible refine AWp.ofC ?_ ?_); (focus exact rfl); simp only [go_sem, getD_map hpp]) | ((with_reducible refine an ?_ ?_); focus exact Au))
    refine ⟨fun h2 => ?_, fun h2 => ?_⟩
    · have hie : i < ps[p].evs.length := by omega
      have hev := evIds_get hpp hie
      repeat ((with_reducible refine an ?_ ?_); focus exact As)
      refine AWp.of ?_; simp only [go_sem, getD_map hpp, getD_map hie]
      repeat ((with_reducible refine an ?_ ?_); focus exact As)
      intro b9 _
      repeat (first | ((with_reducible refine AWp.ofC ?_ ?_); (focus exact rfl); simp only [go_sem]) | ((with_reducible refine an ?_ ?_); focus exact Au))
      refine ⟨fun h3 h4 => ?_, fun h3 => ?_⟩
      · repeat (first | ((with_reducible refine AWp.ofC ?_ ?_); (focus exact rfl); simp only [go_sem]) | ((with_reducible refine an ?_ ?_); focus exact Au))
        have hf := findIn_hit hev hJ ⟨h3, h4⟩
        rw [hf]
        refine ret_eq ?_
        simp only [go_sem]
      · repeat (first | ((with_reducible refine AWp.ofC ?_ ?_); (focus exact rfl); simp only [go_sem]) | ((with_reducible refine an ?_ ?_); focus exact Au))
        refine ⟨_, List.Sublist.refl _, rfl, fun j y hj hy => ?_⟩
        by_cases e : j = off ps p + i
        · subst e; rw [hev] at hy; cases hy; exact fun h => h3 h.1 h.2
        · exact hJ j y (by omega) hy
    · repeat (first | ((with_reducible refine AWp.ofC ?_ ?_); (focus exact rfl); simp only [go_sem]) | ((with_reducible refine an ?_ ?_); focus exact Au))
      refine ⟨_, List.Sublist.refl _, rfl, fun j y hj hy => hJ j y ?_ hy⟩
      rw [off_succ hpp] at hj; omega
  · repeat (first | ((with_reducible refine AWp.ofC ?_ ?_); (focus exact rfl); simp only [go_sem]) | ((with_reducible refine an ?_ ?_); focus exact Au))
    have hf : findIn (evIds ps) kind m = (0, 0) := findIn_none fun x hx => by
      obtain ⟨j, hj⟩ := List.getElem?_of_mem hx
      refine hI j x ?_ hj
      have h2 := (List.getElem?_eq_some_iff.1 hj).1
      rw [evIds_length] at h2
      have : p = ps.length := by omega
      rw [this]; exact h2
    rw [hf]
    refine ret_eq ?_
    simp only [go_sem]
theorem ref12_At (ps : List Pr) (hs : Sm ps) (p : Nat) (hp : p < ps.length) (i : Nat) (hi : i < ps[p].evs.length) : PC Go.Proofs.Tryz.prog 120 [aTr ps, aEid (p, (i : Int) + 1)] (aEv ps[p].evs[i]) := by
  have hl := hs.procs
  have hel := hs.evs _ (List.getElem_mem hp)
  have e1 : ((i : Int) + 1 - 1).toNat = i := by omega
  have hgi := getD_map (f := aEv) hi
  refine PC.enter 17 [.cell 4 75] [2, 3] Go.Proofs.Tryz.func120 rfl rfl rfl rfl rfl (by simp) (AWp.of ?_); simp only [go_sem]
  intro b4
  refine AWp.seq ?_
  repeat (first | (with_reducible refine AWp.seq ?_) | (with_reducible refine AWp.block ?_))
  refine AWp.mix mixed [0, 1, 2, 3, 4, 5, 6, 7, 8, 9, 10, 11] (.step 12 .done .done) (by kernel_rfl) ?_; simp only [go_sem, getD_map hp, e1, hgi]
  repeat ((with_reducible refine an ?_ ?_); focus exact As)
  repeat (first | ((with_reducible refine AWp.ofC ?_ ?_); (focus exact rfl); simp only [go_sem]) | ((with_reducible refine an ?_ ?_); focus exact Au))
  refine ret_eq ?_
  simp only [go_sem]
theorem ref12_form (ps : List Pr) (hs : Sm ps) (p : Nat) (hp : p < ps.length) (i : Nat) (hi : i < ps[p].evs.length) : PC Go.Proofs.Tryz.prog 89 [aTr ps, ai p, ai i] (ai (evF ps p i)) := by
  have hm := List.getElem_mem hp
  have hl := hs.procs
  have hel := hs.evs _ hm
  have hvl := hs.vars _ hm
  have hal := hs.asg _ hm _ (List.getElem_mem hi)
  have hi' : ((i : Int) - 1).toNat < ps[p].evs.length := by omega
  have hgi := getD_map (f := aEv) hi
  have hgi' := getD_map (f := aEv) hi'
  have ex : evF ps p i = if !formedI ps.length p ps[p].evs[i] then 3 else if !inI ps[p].evs[i].time 0 1099511627776 || decide (ps[p].evs[i].time < lastT ps[p].evs i) then 11 else if 8 < ps[p].evs[i].asg.length then 5 else fstF (asgF ps[p].vars.length ps[p].evs[i].asg) ps[p].evs[i].asg.length := by
    simp only [evF, List.getElem?_eq_getElem hp, List.getElem?_eq_getElem hi]
  have hlt : lastT ps[p].evs i = if i = 0 then 0 else ps[p].evs[((i : Int) - 1).toNat].time := by
    unfold lastT
    by_cases h : i = 0
    · rw [if_pos h, if_pos h]
    · have e : ((i : Int) - 1).toNat = i - 1 := by omega
      rw [if_neg h, if_neg h, List.getElem?_eq_getElem (show i - 1 < ps[p].evs.length by omega)]
      simp only [e]
  generalize lastT ps[p].evs i = lt at *
  generalize ps[p].evs[i] = e at *
  generalize ps[p].evs[((i : Int) - 1).toNat] = e' at *
  refine PC.enter 147 [.tmp 6] [3, 7, 9] Go.Proofs.Tryz.func89 rfl rfl rfl rfl rfl (by simp) (AWp.of ?_); simp only [go_sem]
  repeat (first | ((with_reducible refine AWp.ofC ?_ ?_); (focus exact rfl); simp only [go_sem, getD_map hp, hgi]) | ((with_reducible refine an ?_ ?_); focus exact Au))
  intro b7
  refine AWp.cut [1, 2, 3, 7] (fun vs L => L = [] ∧ formedI ps.length p e = true ∧ vs = [ai p, ai i, .rp 1 [aTr ps] 0 0, .rp 5 [aEv e] 0 0]) ?_ ?_
  · repeat (first | ((with_reducible refine AWp.ofC ?_ ?_); (focus exact rfl); simp only [go_sem]) | ((with_reducible refine an ?_ ?_); focus exact Au))
    refine ⟨fun h1 => ?_, fun h1 => ?_⟩
    · repeat (first | ((with_reducible refine AWp.ofC ?_ ?_); (focus exact rfl); simp only [go_sem]) | ((with_reducible refine an ?_ ?_); focus exact Au))
      refine ⟨fun h2 => ?_, fun h2 h3 => ?_⟩
      · repeat (first | ((with_reducible refine AWp.ofC ?_ ?_); (focus exact rfl); simp only [go_sem]) | ((with_reducible refine an ?_ ?_); focus exact Au))
        refine ret_eq ?_; simp only [go_sem]
        rw [ex, if_pos]
        unfold formedI
        rw [if_pos h1]
        rcases h2 with h2 | h2
        · rw [decide_eq_false h2]; rfl
        · rw [decide_eq_false h2, Bool.and_false]; rfl
      · refine ⟨_, List.Sublist.refl _, rfl, ?_⟩
        unfold formedI
        rw [if_pos h1, decide_eq_true (by omega), decide_eq_true (by omega)]; rfl
    · repeat (first | ((with_reducible refine AWp.ofC ?_ ?_); (focus exact rfl); simp only [go_sem]) | ((with_reducible refine an ?_ ?_); focus exact Au))
      refine ⟨fun h2 => ?_, fun h2 => ?_⟩
      · repeat (first | ((with_reducible refine AWp.ofC ?_ ?_); (focus exact rfl); simp only [go_sem]) | ((with_reducible refine an ?_ ?_); focus exact Au))
        refine ret_eq ?_; simp only [go_sem]
        rw [ex, if_pos]
        unfold formedI inI
        rw [if_neg h1]
        by_cases h3 : e.kind = 2 ∨ e.kind = 3
        · rw [if_pos h3, Bool.not_eq_true', ← Bool.not_eq_true]
          intro h
          simp only [Bool.and_eq_true, decide_eq_true_eq, Bool.not_eq_true', decide_eq_false_iff_not] at h
          omega
        · rw [if_neg h3]; rfl
      · intro h3 h4 h5 h6 h7
        refine ⟨_, List.Sublist.refl _, rfl, ?_⟩
        unfold formedI inI
        have hk : e.kind = 2 ∨ e.kind = 3 := by
          by_cases h : e.kind = 2
          · exact .inl h
          · exact .inr (h2 h)
        rw [if_neg h1, if_pos hk]
        simp only [Bool.and_eq_true, decide_eq_true_eq, Bool.not_eq_true', decide_eq_false_iff_not]
        omega
  · rintro vs L - ⟨rfl, hfm, rfl⟩
    have ex : evF ps p i = if !inI e.time 0 1099511627776 || decide (e.time < lt) then 11 else if 8 < e.asg.length then 5 else fstF (asgF ps[p].vars.length e.asg) e.asg.length := by
      rw [ex, if_neg (by rw [hfm]; decide)]
    simp only [go_sem]
    refine AWp.seq (AWp.seq ?_)
    refine AWp.drawn mixed 27 (by kernel_rfl) ?_; simp only [go_sem, getD_map hp, hgi']
    repeat ((with_reducible refine an ?_ ?_); focus exact As)
    repeat (first | ((with_reducible refine AWp.ofC ?_ ?_); (focus exact rfl); simp only [go_sem]) | ((with_reducible refine an ?_ ?_); focus exact Au))
    refine ⟨fun h1 => ?_, fun h1 => ?_⟩
    · repeat (first | ((with_reducible refine AWp.ofC ?_ ?_); (focus exact rfl); simp only [go_sem]) | ((with_reducible refine an ?_ ?_); focus exact Au))
      refine ret_eq ?_; simp only [go_sem]
      rw [ex, if_pos]
      unfold inI
      rw [Bool.or_eq_true, Bool.not_eq_true', ← Bool.not_eq_true, decide_eq_true_eq, Bool.and_eq_true, decide_eq_true_eq, decide_eq_true_eq]
      by_cases h0 : i = 0
      · refine .inl fun h => ?_
        rcases h1 with (h1 | h1) | h1
        · omega
        · omega
        · have := h1.1; omega
      · rw [if_neg h0] at hlt
        rcases h1 with (h1 | h1) | h1
        · exact .inl fun h => by omega
        · exact .inl fun h => by omega
        · exact .inr (by rw [hlt]; exact h1.2)
    · intro h2 h3
      have ex : evF ps p i = if 8 < e.asg.length then 5 else fstF (asgF ps[p].vars.length e.asg) e.asg.length := by
        rw [ex, if_neg]
        unfold inI
        rw [Bool.or_eq_true, Bool.not_eq_true', ← Bool.not_eq_true, decide_eq_true_eq, Bool.and_eq_true, decide_eq_true_eq, decide_eq_true_eq]
        rintro (h | h)
        · exact h ⟨by omega, by omega⟩
        · rw [hlt] at h
          split at h
          · omega
          · exact h3 (by omega) h
      repeat (first | ((with_reducible refine AWp.ofC ?_ ?_); (focus exact rfl); simp only [go_sem]) | ((with_reducible refine an ?_ ?_); focus exact Au))
      repeat (first | ((with_reducible refine AWp.ofC ?_ ?_); (focus exact rfl); simp only [go_sem]) | ((with_reducible refine an ?_ ?_); focus exact Au))
      refine ⟨fun h4 => ?_, fun h4 => ?_⟩
      · repeat (first | ((with_reducible refine AWp.ofC ?_ ?_); (focus exact rfl); simp only [go_sem]) | ((with_reducible refine an ?_ ?_); focus exact Au))
        refine ret_eq ?_; simp only [go_sem]
        rw [ex, if_pos (by omega)]
      · have ex : evF ps p i = fstF (asgF ps[p].vars.length e.asg) e.asg.length := by rw [ex, if_neg (by omega)]
        repeat (first | ((with_reducible refine AWp.ofC ?_ ?_); (focus exact rfl); simp only [go_sem]) | ((with_reducible refine an ?_ ?_); focus exact Au))
        generalize e.asg = al at *
        generalize hnv : ps[p].vars.length = nv at *
        refine AWp.block (AWp.count 8 al.length [] [1, 3, 7] (fun k vs L => L = [] ∧ ∀ j, j < k → asgF nv al j = 0) rfl rfl ⟨rfl, by omega⟩ ?_)
        rintro k vs L hk - ⟨rfl, hI⟩
        simp only [go_sem]
        repeat (first | ((with_reducible refine AWp.ofC ?_ ?_); (focus exact rfl); simp only [go_sem]) | ((with_reducible refine an ?_ ?_); focus exact Au))
        refine ⟨fun h5 => ?_, fun h5 => ?_⟩
        · have hka : k < al.length := by omega
          have e3 : al[k]? = some al[k] := List.getElem?_eq_getElem hka
          have hvf : asgF nv al k = if !inI al[k].1 0 ((nv : Int) - 1) || !inI al[k].2 (-1073741824) 1073741824 then 2 else if (al.take k).any (fun b => decide (b.1 = al[k].1)) then 8 else 0 := by simp only [asgF, e3]
          have hret : asgF nv al k ≠ 0 → evF ps p i = asgF nv al k := fun h => by rw [ex, fstF_hit hka hI h]
          have hgk := getD_map (f := aAsg) hka
          repeat (first | ((with_reducible refine AWp.ofC ?_ ?_); (focus exact rfl); simp only [go_sem, hgk]) | ((with_reducible refine an ?_ ?_); focus exact Au))
          intro b9
          refine AWp.seq (AWp.seq ?_)
          refine AWp.drawn mixed 20 (by kernel_rfl) ?_; simp only [go_sem, getD_map hp, hnv]
          repeat ((with_reducible refine an ?_ ?_); focus exact As)
          refine GCall.use (ab (inI al[k].2 (-1073741824) 1073741824)) (fun _ => ⟨At, (ref12_value _).val.use ⟨rfl, rfl⟩⟩) ?_; simp only [go_sem]
          repeat (first | ((with_reducible refine AWp.ofC ?_ ?_); (focus exact rfl); simp only [go_sem]) | ((with_reducible refine an ?_ ?_); focus exact Au))
          refine ⟨fun h6 => ?_, fun h6 => ?_⟩
          · repeat (first | ((with_reducible refine AWp.ofC ?_ ?_); (focus exact rfl); simp only [go_sem]) | ((with_reducible refine an ?_ ?_); focus exact Au))
            refine ret_eq ?_; simp only [go_sem]
            have hv2 : asgF nv al k = 2 := by
              rw [hvf, if_pos]
              rw [Bool.or_eq_true, Bool.not_eq_true', ← Bool.not_eq_true, Bool.not_eq_true']
              rcases h6 with (h6 | h6) | h6
              · exact .inl fun h => by unfold inI at h; rw [Bool.and_eq_true, decide_eq_true_eq, decide_eq_true_eq] at h; omega
              · exact .inl fun h => by unfold inI at h; rw [Bool.and_eq_true, decide_eq_true_eq, decide_eq_true_eq] at h; omega
              · exact .inr h6
            rw [hret (by rw [hv2]; decide), hv2]
          · intro h7 h8
            have hc : ¬ ((!inI al[k].1 0 ((nv : Int) - 1) || !inI al[k].2 (-1073741824) 1073741824) = true) := by
              rw [h8, Bool.not_true, Bool.or_false]
              unfold inI
              rw [Bool.not_eq_true', ← Bool.not_eq_true, Bool.and_eq_true, decide_eq_true_eq, decide_eq_true_eq]
              omega
            repeat (first | ((with_reducible refine AWp.ofC ?_ ?_); (focus exact rfl); simp only [go_sem]) | ((with_reducible refine an ?_ ?_); focus exact Au))
            refine AWp.block (AWp.count 10 k [] [1, 3, 7, 8, 9] (fun j vs L => L = [] ∧ ∀ (r : Nat) (hr : r < al.length), r < j → al[r].1 ≠ al[k].1) rfl rfl ⟨rfl, by omega⟩ ?_)
            rintro j vs L hj - ⟨rfl, hJ⟩
            simp only [go_sem]
            repeat (first | ((with_reducible refine AWp.ofC ?_ ?_); (focus exact rfl); simp only [go_sem]) | ((with_reducible refine an ?_ ?_); focus exact Au))
            refine ⟨fun h9 => ?_, fun h9 => ?_⟩
            · have hja : j < al.length := by omega
              have hgj := getD_map (f := aAsg) hja
              refine AWp.seq (AWp.block (AWp.seq ?_))
              refine AWp.drawn mixed 8 (by kernel_rfl) ?_; simp only [go_sem, hgj]
              repeat ((with_reducible refine an ?_ ?_); focus exact As)
              repeat (first | ((with_reducible refine AWp.ofC ?_ ?_); (focus exact rfl); simp only [go_sem]) | ((with_reducible refine an ?_ ?_); focus exact Au))
              refine ⟨fun h10 => ?_, fun h10 => ?_⟩
              · repeat (first | ((with_reducible refine AWp.ofC ?_ ?_); (focus exact rfl); simp only [go_sem]) | ((with_reducible refine an ?_ ?_); focus exact Au))
                refine ret_eq ?_; simp only [go_sem]
                have hv8 : asgF nv al k = 8 := by
                  rw [hvf, if_neg hc, if_pos]
                  refine List.any_eq_true.2 ⟨al[j], ?_, decide_eq_true h10⟩
                  refine List.mem_of_getElem? (i := j) ?_
                  rw [List.getElem?_take, if_pos (by omega), List.getElem?_eq_getElem hja]
                rw [hret (by rw [hv8]; decide), hv8]
              · repeat (first | ((with_reducible refine AWp.ofC ?_ ?_); (focus exact rfl); simp only [go_sem]) | ((with_reducible refine an ?_ ?_); focus exact Au))
                refine ⟨_, List.Sublist.refl _, rfl, fun r hr hrq => ?_⟩
                by_cases e : r = j
                · subst e; exact h10
                · exact hJ r hr (by omega)
            · have hno : (al.take k).any (fun b => decide (b.1 = al[k].1)) = false := by
                rw [List.any_eq_false]
                intro y hy
                obtain ⟨r, hr, rfl⟩ := List.getElem_of_mem hy
                have hr' : r < k := by rw [List.length_take] at hr; omega
                rw [List.getElem_take]
                simpa using hJ r (by omega) (by omega)
              repeat (first | ((with_reducible refine AWp.ofC ?_ ?_); (focus exact rfl); simp only [go_sem]) | ((with_reducible refine an ?_ ?_); focus exact Au))
              refine ⟨_, List.Sublist.refl _, rfl, fun r hr => ?_⟩
              by_cases e : r = k
              · subst e; rw [hvf, if_neg hc, if_neg (by rw [hno]; decide)]
              · exact hI r (by omega)
        · repeat (first | ((with_reducible refine AWp.ofC ?_ ?_); (focus exact rfl); simp only [go_sem]) | ((with_reducible refine an ?_ ?_); focus exact Au))
          refine ret_eq ?_; simp only [go_sem]
          rw [ex, fstF_none fun r hr => hI r (by omega)]
end Go.AL
end
section
/- The reference of layer 12, third part: pairs; what can be executed. No condition. -/
namespace Go.AL
open Go Go.RowKit
set_option maxRecDepth 4000
theorem pair_first {ps : List Pr} {p : Nat} (hp : p < ps.length) {i : Nat} (hi : i < ps[p].evs.length) :
    findIn (evIds ps) ps[p].evs[i].kind ps[p].evs[i].msg = ((p : Int), (i : Int) + 1) ↔ ¬ 0 < (findIn ((evIds ps).take (off ps p + i)) ps[p].evs[i].kind ps[p].evs[i].msg).2 := by
  have hev := evIds_get hp hi
  constructor
  · intro h h0
    have hsplit : evIds ps = (evIds ps).take (off ps p + i) ++ (evIds ps).drop (off ps p + i) := (List.take_append_drop _ _).symm
    unfold findIn at h0
    cases hf : ((evIds ps).take (off ps p + i)).find? (fun x => decide (x.2.kind = ps[p].evs[i].kind) && decide (x.2.msg = ps[p].evs[i].msg)) with
    | none => rw [hf] at h0; simp at h0
    | some y =>
      have h1 : findIn (evIds ps) ps[p].evs[i].kind ps[p].evs[i].msg = y.1 := by
        unfold findIn
        rw [hsplit, List.find?_append, hf]; rfl
      have hy := List.mem_of_find?_eq_some hf
      obtain ⟨j, hj⟩ := List.getElem?_of_mem hy
      rw [List.getElem?_take] at hj
      split at hj
      · rename_i hlt
        obtain ⟨q, hq, r, hr, e, e2⟩ := evIds_inv hj
        rw [e2] at h1
        rw [h1, Prod.mk.injEq] at h
        have e3 : q = p := by omega
        have e4 : r = i := by omega
        subst e3; subst e4
        omega
      · cases hj
  · intro hno
    refine findIn_hit hev (fun j y hj hy hc => hno ?_) ⟨rfl, rfl⟩
    have hmem : y ∈ (evIds ps).take (off ps p + i) := by
      refine List.mem_of_getElem? (i := j) ?_
      rw [List.getElem?_take, if_pos hj]; exact hy
    unfold findIn
    cases hf : ((evIds ps).take (off ps p + i)).find? (fun x => decide (x.2.kind = ps[p].evs[i].kind) && decide (x.2.msg = ps[p].evs[i].msg)) with
    | some x => exact evIds_pos ps x (List.mem_of_mem_take (List.mem_of_find?_eq_some hf))
    | none =>
      rw [List.find?_eq_none] at hf
      have := hf y hmem
      simp [hc.1, hc.2] at this
theorem ref12_paired (ps : List Pr) (hs : Sm ps) (hf : Formed ps) (p : Nat) (hp : p < ps.length) (i : Nat) (hi : i < ps[p].evs.length) : PC Go.Proofs.Tryz.prog 90 [aTr ps, aEid (p, (i : Int) + 1)] (ai (pairF ps (off ps p + i))) := by
  have hfe := hf p hp _ (List.getElem_mem hi)
  have hev := evIds_get hp hi
  have hpf : pairF ps (off ps p + i) = if ps[p].evs[i].kind = 2 then if (findIn ((evIds ps).take (off ps p + i)) 2 ps[p].evs[i].msg).2 > 0 then 8 else 0 else if ps[p].evs[i].kind = 3 then if (findIn ((evIds ps).take (off ps p + i)) 3 ps[p].evs[i].msg).2 > 0 then 8 else if !sendsB ps ps[p].evs[i].peer ps[p].evs[i].msg p then 7 else 0 else 0 := by
    unfold pairF; rw [hev]
  have hfst := pair_first hp hi
  have hat := ref12_At ps hs p hp i hi
  generalize ps[p].evs[i] = e at *
  refine PC.enter 70 [.tmp 4] [2, 3, 5, 8] Go.Proofs.Tryz.func90 rfl rfl rfl rfl rfl (by simp) (AWp.of ?_); simp only [go_sem]
  repeat (first | ((with_reducible refine AWp.ofC ?_ ?_); (focus exact rfl); simp only [go_sem]) | ((with_reducible refine an ?_ ?_); focus exact Au))
  repeat ((with_reducible refine an ?_ ?_); focus exact As)
  refine (hat).val.use ?_; simp only [go_sem]
  repeat ((with_reducible refine an ?_ ?_); focus exact As)
  intro b5
  repeat (first | ((with_reducible refine AWp.ofC ?_ ?_); (focus exact rfl); simp only [go_sem]) | ((with_reducible refine an ?_ ?_); focus exact Au))
  refine ⟨fun h1 => ?_, fun h1 => ?_⟩
  · repeat (first | ((with_reducible refine AWp.ofC ?_ ?_); (focus exact rfl); simp only [go_sem]) | ((with_reducible refine an ?_ ?_); focus exact Au))
    refine ret_eq ?_; simp only [go_sem]
    rw [hpf, if_neg (by omega), if_neg (by omega)]
  · have hk : e.kind = 2 ∨ e.kind = 3 := by
      unfold formedI at hfe
      rw [if_neg h1] at hfe
      by_cases h : e.kind = 2 ∨ e.kind = 3
      · exact h
      · rw [if_neg h] at hfe; cases hfe
    obtain ⟨m1, m2, m3, m4⟩ := formed_msg hfe hk
    have hfd := ref12_Find ps hs e.kind e.msg
    generalize hfi : findIn (evIds ps) e.kind e.msg = f at *
    repeat (first | ((with_reducible refine AWp.ofC ?_ ?_); (focus exact rfl); simp only [go_sem]) | ((with_reducible refine an ?_ ?_); focus exact Au))
    refine AWp.seq (AWp.seq ?_)
    refine AWp.drawn mixed 7 (by kernel_rfl) ?_; simp only [go_sem]
    repeat ((with_reducible refine an ?_ ?_); focus exact As)
    refine GCall.use (aEid f) (fun _ => ⟨At, (hfd).val.use ⟨rfl, rfl⟩⟩) ?_; simp only [go_sem]
    repeat (first | ((with_reducible refine AWp.ofC ?_ ?_); (focus exact rfl); simp only [go_sem]) | ((with_reducible refine an ?_ ?_); focus exact Au))
    refine ⟨fun h2 => ?_, fun h2 => ?_⟩
    · have hne : ¬ f = ((p : Int), (i : Int) + 1) := fun h => by rw [h] at h2; exact h2 rfl rfl
      have h0 : 0 < (findIn ((evIds ps).take (off ps p + i)) e.kind e.msg).2 := by
        by_cases h : 0 < (findIn ((evIds ps).take (off ps p + i)) e.kind e.msg).2
        · exact h
        · exact absurd (hfst.2 h) hne
      repeat (first | ((with_reducible refine AWp.ofC ?_ ?_); (focus exact rfl); simp only [go_sem]) | ((with_reducible refine an ?_ ?_); focus exact Au))
      refine ret_eq ?_; simp only [go_sem]
      rw [hpf]
      rcases hk with hk | hk
      · rw [hk] at h0; rw [if_pos hk, if_pos h0]
      · rw [hk] at h0; rw [if_neg (by omega), if_pos hk, if_pos h0]
    · intro h3
      have he : f = ((p : Int), (i : Int) + 1) := Prod.ext h2 h3
      have h0 := hfst.1 he
      repeat (first | ((with_reducible refine AWp.ofC ?_ ?_); (focus exact rfl); simp only [go_sem]) | ((with_reducible refine an ?_ ?_); focus exact Au))
      repeat (first | ((with_reducible refine AWp.ofC ?_ ?_); (focus exact rfl); simp only [go_sem]) | ((with_reducible refine an ?_ ?_); focus exact Au))
      refine ⟨fun h4 => ?_, fun h4 => ?_⟩
      · have hpn : e.peer.toNat < ps.length := by omega
        have hpe : ((e.peer.toNat : Nat) : Int) = e.peer := Int.toNat_of_nonneg m3
        have hel := hs.evs _ (List.getElem_mem hpn)
        have hgp := getD_map (f := aPr) hpn
        have hsd : sendsB ps e.peer e.msg p = ps[e.peer.toNat].evs.any fun x => decide (x.kind = 2) && decide (x.msg = e.msg) && decide (x.peer = p) := by
          simp only [sendsB, List.getElem?_eq_getElem hpn]
        rw [h4] at h0
        have hpf : pairF ps (off ps p + i) = if !sendsB ps e.peer e.msg p then 7 else 0 := by
          rw [hpf, if_neg (by omega), if_pos h4, if_neg h0]
        rw [hsd] at hpf
        repeat (first | ((with_reducible refine AWp.ofC ?_ ?_); (focus exact rfl); simp only [go_sem]) | ((with_reducible refine an ?_ ?_); focus exact Au))
        obtain ⟨es, hes⟩ : ∃ es, ps[e.peer.toNat].evs = es := ⟨_, rfl⟩
        rw [hes] at hsd hpf hel
        refine AWp.block (AWp.count 7 es.length [6] [2, 3, 5] (fun j vs L => L = [] ∧ vs = [ab ((es.take j).any fun x => decide (x.kind = 2) && decide (x.msg = e.msg) && decide (x.peer = p))]) rfl rfl ⟨rfl, rfl⟩ ?_)
        rintro j vs L hj - ⟨rfl, rfl⟩
        simp only [go_sem]
        repeat (first | ((with_reducible refine AWp.ofC ?_ ?_); (focus exact rfl); simp only [go_sem, hgp, hes]) | ((with_reducible refine an ?_ ?_); focus exact Au))
        refine ⟨fun h5 => ?_, fun h5 => ?_⟩
        · have hje : j < es.length := by omega
          have hgj := getD_map (f := aEv) hje
          have hsu : (es.take (j + 1)).any (fun x => decide (x.kind = 2) && decide (x.msg = e.msg) && decide (x.peer = p)) = ((es.take j).any (fun x => decide (x.kind = 2) && decide (x.msg = e.msg) && decide (x.peer = p)) || (decide (es[j].kind = 2) && decide (es[j].msg = e.msg) && decide (es[j].peer = p))) := by
            rw [List.take_succ_eq_append_getElem hje, List.any_append]; simp
          generalize (es.take j).any (fun x => decide (x.kind = 2) && decide (x.msg = e.msg) && decide (x.peer = p)) = b at *
          repeat ((with_reducible refine an ?_ ?_); focus exact As)
          refine AWp.of ?_; simp only [go_sem, hgp, hes, hgj]
          repeat ((with_reducible refine an ?_ ?_); focus exact As)
          intro b8
          repeat (first | ((with_reducible refine AWp.ofC ?_ ?_); (focus exact rfl); simp only [go_sem]) | ((with_reducible refine an ?_ ?_); focus exact Au))
          repeat ((with_reducible refine And.intro ?_ ?_); focus (intro h; refine ⟨h, ?_⟩; intro h1; first | exact ⟨h, h1⟩ | (intro h2; exact ⟨h, h1, h2⟩)))
          repeat (first | ((with_reducible refine AWp.ofC ?_ ?_); (focus exact rfl); simp only [go_sem]) | ((with_reducible refine an ?_ ?_); focus exact Au))
          refine ⟨_, List.Sublist.refl _, rfl, ?_⟩
          rw [hsu]
        · repeat (first | ((with_reducible refine AWp.ofC ?_ ?_); (focus exact rfl); simp only [go_sem]) | ((with_reducible refine an ?_ ?_); focus exact Au))
          rw [List.take_of_length_le (by omega)]
          repeat (first | ((with_reducible refine AWp.ofC ?_ ?_); (focus exact rfl); simp only [go_sem]) | ((with_reducible refine an ?_ ?_); focus exact Au))
          refine ⟨fun h6 => ?_, fun h6 => ?_⟩
          · repeat (first | ((with_reducible refine AWp.ofC ?_ ?_); (focus exact rfl); simp only [go_sem]) | ((with_reducible refine an ?_ ?_); focus exact Au))
            refine ret_eq ?_; simp only [go_sem]
            rw [hpf, if_pos (by rw [h6]; rfl)]
          · repeat (first | ((with_reducible refine AWp.ofC ?_ ?_); (focus exact rfl); simp only [go_sem]) | ((with_reducible refine an ?_ ?_); focus exact Au))
            refine ret_eq ?_; simp only [go_sem]
            rw [hpf, if_neg (by rw [h6]; decide)]
      · repeat (first | ((with_reducible refine AWp.ofC ?_ ?_); (focus exact rfl); simp only [go_sem]) | ((with_reducible refine an ?_ ?_); focus exact Au))
        refine ret_eq ?_; simp only [go_sem]
        rw [hpf]
        rcases hk with hk | hk
        · rw [hk] at h0; rw [if_pos hk, if_neg h0]
        · exact absurd hk h4
end Go.AL
end
section
/- Rows of counts. No condition. -/
namespace Go.AL
open Go Go.RowKit
def dnA (n : Nat) (c : Nat → Nat) : List AV := (List.range n).map fun q => ai (c q)
theorem dnA_length (n : Nat) (c : Nat → Nat) : (dnA n c).length = n := by simp [dnA]
theorem dnA_set {n p : Nat} {c c' : Nat → Nat} {x : Int} (hx : (c' p : Int) = x) (ho : ∀ q, q ≠ p → c' q = c q) : (dnA n c).set p (ai x) = dnA n c' := by
  unfold dnA
  rw [map_range_set]; congr 1; funext q
  by_cases e : q = p
  · rw [if_pos e, e, hx]
  · rw [if_neg e, ho q e]
theorem dnA_get {n p : Nat} (hp : p < n) (c : Nat → Nat) : (dnA n c).getD p .any = ai (c p) := map_range_getD hp _
theorem nd2 {b c : Nat} {x y : ABlk} {r : AHeap} (h : ((((b, x) :: (c, y) :: r : AHeap)).map (·.1)).Nodup) : ¬ b = c ∧ ¬ c = b ∧ ∀ z ∈ r, (¬ b = z.1 ∧ ¬ z.1 = b) ∧ ¬ c = z.1 ∧ ¬ z.1 = c := by
  simp only [List.map_cons, List.nodup_cons, List.mem_cons, not_or, List.mem_map, not_exists, not_and] at h
  obtain ⟨⟨h1, h2⟩, h3, _⟩ := h
  exact ⟨h1, fun e => h1 e.symm, fun z hz => ⟨⟨fun e => h2 z hz e.symm, h2 z hz⟩, fun e => h3 z hz e.symm, h3 z hz⟩⟩
theorem nd3 {b c d : Nat} {x y z : ABlk} {r : AHeap} (h : ((((b, x) :: (c, y) :: (d, z) :: r : AHeap)).map (·.1)).Nodup) : (¬ b = c ∧ ¬ c = b) ∧ (¬ b = d ∧ ¬ d = b) ∧ (¬ c = d ∧ ¬ d = c) ∧ ∀ w ∈ r, (¬ b = w.1 ∧ ¬ w.1 = b) ∧ (¬ c = w.1 ∧ ¬ w.1 = c) ∧ ¬ d = w.1 ∧ ¬ w.1 = d := by
  obtain ⟨h1, h2, h3⟩ := nd2 h
  rw [List.map_cons, List.nodup_cons] at h
  obtain ⟨h4, h5, h6⟩ := nd2 h.2
  exact ⟨⟨h1, h2⟩, (h3 (d, z) List.mem_cons_self).1, ⟨h4, h5⟩, fun w hw => ⟨(h3 w (List.mem_cons_of_mem _ hw)).1, (h6 w hw).1, (h6 w hw).2⟩⟩
end Go.AL
end
