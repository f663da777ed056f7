/- The package cut: consistent cuts. No condition. -/
import Derived.Test.YtkfkdmefabefkaaWCut
namespace Go.AL
open Go Go.RowKit
set_option maxRecDepth 4000
theorem valid_len {ps : List Pr} (h : validF ps = true) : 1 ≤ ps.length ∧ ps.length ≤ 8 := by
  unfold validF faultF at h
  simp only [decide_eq_true_eq] at h
  split at h
  · simp at h
  · rename_i hn
    have hn' : inI ps.length 1 8 = true := by simpa using hn
    simp only [inI, Bool.and_eq_true, decide_eq_true_eq] at hn'
    omega
theorem findIn_or (ps : List Pr) (kind m : Int) : findIn (evIds ps) kind m = (0, 0) ∨ VEv ps (findIn (evIds ps) kind m) := by
  unfold findIn
  cases hf : (evIds ps).find? (fun x => decide (x.2.kind = kind) && decide (x.2.msg = m)) with
  | none => exact .inl rfl
  | some x => exact .inr (VEv.of_mem (List.mem_of_find?_eq_some hf))
theorem findIn_proc {ps : List Pr} (h : 1 ≤ ps.length) (kind m : Int) : 0 ≤ (findIn (evIds ps) kind m).1 ∧ (findIn (evIds ps) kind m).1 < ps.length := by
  rcases findIn_or ps kind m with e | ⟨p, hp, i, hi, e⟩
  · rw [e]; constructor
    · exact Int.le_refl 0
    · show (0 : Int) < _; omega
  · rw [e]; constructor
    · show (0 : Int) ≤ (p : Int); omega
    · show (p : Int) < _; omega
def cAt (c : List Int) (p : Int) : Int := c.getD p.toNat 0
theorem cAt_nat {c : List Int} {p : Nat} (h : p < c.length) : cAt c p = c[p] := by simp [cAt, List.getD_eq_getElem?_getD, h]
theorem getD_cAt {c : List Int} {p : Int} (h0 : 0 ≤ p) (h : p < c.length) : (c.map ai).getD p.toNat .any = ai (cAt c p) := by
  have h2 : p.toNat < c.length := by omega
  rw [getD_map h2]; unfold cAt; simp [List.getD_eq_getElem?_getD, h2]
/-- A receive in the cut whose send is not in it. -/
def badEv (ps : List Pr) (c : List Int) (x : Eid × Ev) : Bool :=
  decide (x.2.kind = 3) && decide (x.1.2 ≤ cAt c x.1.1) && decide (cAt c (findIn (evIds ps) 2 x.2.msg).1 < (findIn (evIds ps) 2 x.2.msg).2)
def missF (ps : List Pr) (c : List Int) : Option (Eid × Eid) := ((evIds ps).find? (badEv ps c)).map fun x => (findIn (evIds ps) 2 x.2.msg, x.1)
def closedF (ps : List Pr) (c : List Int) : Bool := !(evIds ps).any (badEv ps c)
theorem missF_hit {ps : List Pr} {c : List Int} {k : Nat} {x : Eid × Ev} (hx : (evIds ps)[k]? = some x) (h0 : ∀ (j : Nat) (y : Eid × Ev), j < k → (evIds ps)[j]? = some y → badEv ps c y = false) (h : badEv ps c x = true) :
    missF ps c = some (findIn (evIds ps) 2 x.2.msg, x.1) := by
  obtain ⟨hk, he⟩ := List.getElem?_eq_some_iff.1 hx
  have : (evIds ps).find? (badEv ps c) = some x := by
    rw [List.find?_eq_some_iff_getElem]
    exact ⟨h, k, hk, he, fun j hj => by simpa using h0 j _ hj (List.getElem?_eq_getElem (by omega))⟩
  unfold missF; rw [this]; rfl
theorem missF_none {ps : List Pr} {c : List Int} (h : ∀ (j : Nat) (y : Eid × Ev), (evIds ps)[j]? = some y → badEv ps c y = false) : missF ps c = none := by
  have : (evIds ps).find? (badEv ps c) = none := by
    rw [List.find?_eq_none]; intro y hy
    obtain ⟨j, hj⟩ := List.getElem?_of_mem hy
    simpa using h j y hj
  unfold missF; rw [this]; rfl
theorem closedF_iff (ps : List Pr) (c : List Int) : closedF ps c = (missF ps c).isNone := by
  unfold closedF missF
  cases h : (evIds ps).find? (badEv ps c) with
  | none =>
    rw [List.find?_eq_none] at h
    have : (evIds ps).any (badEv ps c) = false := by rw [List.any_eq_false]; exact h
    rw [this]; rfl
  | some x =>
    have : (evIds ps).any (badEv ps c) = true := List.any_eq_true.2 ⟨x, List.mem_of_find?_eq_some h, List.find?_some h⟩
    rw [this]; rfl
def aMiss (ps : List Pr) (c : List Int) : AV := match missF ps c with
  | some (s, r) => .tup [aEid s, aEid r, ab true]
  | none => .tup [aEid (0, 0), aEid (0, 0), ab false]
theorem inRangeF_get {ps : List Pr} {c : List Int} (h : inRangeF ps c = true) (hc : c.length = ps.length) {p : Nat} (hp : p < ps.length) : 0 ≤ c[p] ∧ c[p] ≤ ps[p].evs.length := by
  unfold inRangeF at h
  rw [List.all_eq_true] at h
  have := h p (List.mem_range.2 (by omega))
  have hp' : p < c.length := by omega
  simp only [cntOk, List.getElem?_eq_getElem hp, List.getElem?_eq_getElem hp', Bool.and_eq_true, decide_eq_true_eq] at this
  exact this
theorem cut_missing (ps : List Pr) (hs : Sm ps) (c : List Int) (hv : validF ps = true) (hc : c.length = ps.length) (hr : inRangeF ps c = true) : PC Go.Proofs.Try.prog 78 [aTr ps, aInts c] (aMiss ps c) := by
  obtain ⟨hl1, hl8⟩ := valid_len hv
  have hfv : ∀ m, findV ps 2 m = findIn (evIds ps) 2 m := fun m => by unfold findV; rw [hv]; rfl
  refine PC.enter 61 [.cell 4 81, .cell 5 81, .tmp 6] [2, 10, 11] Go.Proofs.Try.func78 rfl rfl rfl rfl rfl (by simp) (AWp.of ?_); simp only [go_sem]
  intro b4
  intro b5 h5
  have n45 : ¬ b4 = b5 := by omega
  have n54 : ¬ b5 = b4 := by omega
  repeat ((with_reducible refine And.intro ?_ ?_); focus first | exact True.intro | omega | (intros; (with_reducible and_intros) <;> first | (with_reducible assumption) | omega; done) | (simp; done) | (simp; omega))
  refine AWp.of ?_; simp only [go_sem]
  refine AWp.range' c.length [] [1, 2, 4, 5, 13, 14] (fun k vs L => L = [(b5, .row 81 2 [aEid (0, 0)] 1), (b4, .row 81 2 [aEid (0, 0)] 1)] ∧ ∀ (j : Nat) (y : Eid × Ev), j < off ps k → (evIds ps)[j]? = some y → badEv ps c y = false) (by omega) rfl rfl rfl ⟨by simp [aEid], by simp [off]⟩ ?_ ?_
  · rintro p vs L' hp - ⟨rfl, hI⟩
    have hpp : p < ps.length := by omega
    obtain ⟨hr1, hr2⟩ := inRangeF_get hr hc hpp
    have hel := hs.evs _ (List.getElem_mem hpp)
    have hT : (ps[p].evs.take c[p].toNat).length = c[p].toNat := by rw [List.length_take]; omega
    simp only [go_sem]
    repeat (first | ((with_reducible refine AWp.ofC ?_ ?_); (focus exact rfl); simp only [go_sem, getD_map hp, getD_map hpp, hT]) | ((with_reducible refine And.intro ?_ ?_); focus first | exact True.intro | omega | (intros; (with_reducible and_intros) <;> first | (with_reducible assumption) | omega; done)))
    refine AWp.range' c[p].toNat [] [1, 2, 4, 5, 7, 13, 14, 15, 27, 28] (fun i vs L => L = [(b5, .row 81 2 [aEid (0, 0)] 1), (b4, .row 81 2 [aEid (0, 0)] 1)] ∧ ∀ (j : Nat) (y : Eid × Ev), j < off ps p + i → (evIds ps)[j]? = some y → badEv ps c y = false) (by omega) rfl rfl rfl ⟨by simp [aEid], hI⟩ ?_ ?_
    · rintro i vs L' hi - ⟨rfl, hI⟩
      have hi' : i < (ps[p].evs.take c[p].toNat).length := by omega
      have hie : i < ps[p].evs.length := by omega
      have hge : (ps[p].evs.take c[p].toNat)[i] = ps[p].evs[i] := List.getElem_take
      have hev := evIds_get hpp hie
      have hbad : badEv ps c (((p : Int), (i : Int) + 1), ps[p].evs[i]) = (decide (ps[p].evs[i].kind = 3) && decide (cAt c (findIn (evIds ps) 2 ps[p].evs[i].msg).1 < (findIn (evIds ps) 2 ps[p].evs[i].msg).2)) := by
        simp only [badEv, cAt_nat hp, decide_eq_true (show (i : Int) + 1 ≤ c[p] by omega), Bool.and_true]
      simp only [go_sem]
      repeat ((with_reducible refine And.intro ?_ ?_); focus first | exact True.intro | omega | (intros; (with_reducible and_intros) <;> first | (with_reducible assumption) | omega; done) | (simp; done) | (simp; omega))
      refine AWp.of ?_; simp only [go_sem, getD_map hi', hge]
      repeat ((with_reducible refine And.intro ?_ ?_); focus first | exact True.intro | omega | (intros; (with_reducible and_intros) <;> first | (with_reducible assumption) | omega; done) | (simp; done) | (simp; omega))
      intros
      repeat (first | ((with_reducible refine AWp.ofC ?_ ?_); (focus exact rfl); simp only [go_sem]) | ((with_reducible refine And.intro ?_ ?_); focus first | exact True.intro | omega | (intros; (with_reducible and_intros) <;> first | (with_reducible assumption) | omega; done)))
      refine ⟨fun h1 => ?_, fun h1 => ?_⟩
      · refine ⟨_, List.Sublist.refl _, rfl, fun j y hj hy => ?_⟩
        by_cases e : j = off ps p + i
        · subst e; rw [hev] at hy; cases hy; rw [hbad, decide_eq_false h1]; rfl
        · exact hI j y (by omega) hy
      · obtain ⟨hf1, hf2⟩ := findIn_proc hl1 2 ps[p].evs[i].msg
        rw [decide_eq_true h1, Bool.true_and] at hbad
        have hs1 := trace_Sender ps hs ps[p].evs[i].msg
        rw [hfv] at hs1
        have hgc := getD_cAt (c := c) hf1 (by omega)
        generalize hsd : findIn (evIds ps) 2 ps[p].evs[i].msg = s at *
        repeat (first | ((with_reducible refine AWp.ofC ?_ ?_); (focus exact rfl); simp only [go_sem]) | ((with_reducible refine And.intro ?_ ?_); focus first | exact True.intro | omega | (intros; (with_reducible and_intros) <;> first | (with_reducible assumption) | omega; done)))
        repeat ((with_reducible refine And.intro ?_ ?_); focus first | exact True.intro | omega | (intros; (with_reducible and_intros) <;> first | (with_reducible assumption) | omega; done) | (simp; done) | (simp; omega))
        refine (hs1).val.use ?_; simp only [go_sem]
        repeat ((with_reducible refine And.intro ?_ ?_); focus first | exact True.intro | omega | (intros; (with_reducible and_intros) <;> first | (with_reducible assumption) | omega; done) | (simp; done) | (simp; omega))
        intros
        refine AWp.seq ?_
        refine AWp.drawn mixed 8 (by kernel_rfl) ?_; simp only [go_sem, hgc]
        repeat ((with_reducible refine And.intro ?_ ?_); focus first | exact True.intro | omega | (intros; (with_reducible and_intros) <;> first | (with_reducible assumption) | omega; done) | (simp; done) | (simp; omega))
        repeat (first | ((with_reducible refine AWp.ofC ?_ ?_); (focus exact rfl); simp only [go_sem, n45, n54]) | ((with_reducible refine And.intro ?_ ?_); focus first | exact True.intro | omega | (intros; (with_reducible and_intros) <;> first | (with_reducible assumption) | omega; done)))
        refine ⟨fun h2 => ?_, fun h2 => ?_⟩
        · repeat (first | ((with_reducible refine AWp.ofC ?_ ?_); (focus exact rfl); simp only [go_sem, n45, n54]) | ((with_reducible refine And.intro ?_ ?_); focus first | exact True.intro | omega | (intros; (with_reducible and_intros) <;> first | (with_reducible assumption) | omega; done)))
          have hm := missF_hit hev hI (by rw [hbad]; exact decide_eq_true h2)
          rw [hsd] at hm
          have hmm : aMiss ps c = .tup [aEid s, aEid ((p : Int), (i : Int) + 1), ab true] := by unfold aMiss; rw [hm]
          rw [hmm]
          refine ret_eq ?_
          simp only [go_sem, n45, n54]
        · refine ⟨_, List.Sublist.refl _, rfl, fun j y hj hy => ?_⟩
          by_cases e : j = off ps p + i
          · subst e; rw [hev] at hy; cases hy; rw [hbad]; exact decide_eq_false h2
          · exact hI j y (by omega) hy
    · rintro vs L' - ⟨rfl, hI⟩
      simp only [go_sem]
      refine ⟨_, List.Sublist.refl _, rfl, fun j y hj hy => ?_⟩
      rw [off_succ hpp] at hj
      by_cases e : j < off ps p + c[p].toNat
      · exact hI j y e hy
      · obtain ⟨i, hi⟩ : ∃ i, j = off ps p + i := ⟨j - off ps p, by omega⟩
        subst hi
        have hie : i < ps[p].evs.length := by omega
        rw [evIds_get hpp hie] at hy; cases hy
        simp only [badEv, cAt_nat hp, decide_eq_false (show ¬ (i : Int) + 1 ≤ c[p] by omega), Bool.and_false, Bool.false_and]
  · rintro vs L' - ⟨rfl, hI⟩
    have hm := missF_none (ps := ps) (c := c) (fun j y hy => hI j y (by rw [hc, ← evIds_length]; exact (List.getElem?_eq_some_iff.1 hy).1) hy)
    have hmm : aMiss ps c = .tup [aEid (0, 0), aEid (0, 0), ab false] := by unfold aMiss; rw [hm]
    simp only [go_sem]
    repeat (first | ((with_reducible refine AWp.ofC ?_ ?_); (focus exact rfl); simp only [go_sem, n45, n54]) | ((with_reducible refine And.intro ?_ ?_); focus first | exact True.intro | omega | (intros; (with_reducible and_intros) <;> first | (with_reducible assumption) | omega; done)))
    rw [hmm]
    refine ret_eq ?_
    simp only [go_sem, n45, n54]
theorem cut_closed (ps : List Pr) (hs : Sm ps) (c : List Int) (hv : validF ps = true) (hc : c.length = ps.length) (hr : inRangeF ps c = true) : PC Go.Proofs.Try.prog 65 [aTr ps, aInts c] (ab (closedF ps c)) := by
  have hm := cut_missing ps hs c hv hc hr
  rw [closedF_iff]
  unfold aMiss at hm
  refine PC.enter 17 [.tmp 4] [2, 5, 6] Go.Proofs.Try.func65 rfl rfl rfl rfl rfl (by simp) (AWp.of ?_); simp only [go_sem]
  repeat (first | ((with_reducible refine AWp.ofC ?_ ?_); (focus exact rfl); simp only [go_sem]) | ((with_reducible refine And.intro ?_ ?_); focus first | exact True.intro | omega | (intros; (with_reducible and_intros) <;> first | (with_reducible assumption) | omega; done)))
  cases h : missF ps c with
  | none =>
    rw [h] at hm
    repeat ((with_reducible refine And.intro ?_ ?_); focus first | exact True.intro | omega | (intros; (with_reducible and_intros) <;> first | (with_reducible assumption) | omega; done) | (simp; done) | (simp; omega))
    refine (hm).val.use ?_; simp only [go_sem]
    repeat ((with_reducible refine And.intro ?_ ?_); focus first | exact True.intro | omega | (intros; (with_reducible and_intros) <;> first | (with_reducible assumption) | omega; done) | (simp; done) | (simp; omega))
    intro b5 b6 h6
    have n56 : ¬ b5 = b6 := by omega
    have n65 : ¬ b6 = b5 := by omega
    simp only [go_sem, n56, n65]
    repeat (first | ((with_reducible refine AWp.ofC ?_ ?_); (focus exact rfl); simp only [go_sem]) | ((with_reducible refine And.intro ?_ ?_); focus first | exact True.intro | omega | (intros; (with_reducible and_intros) <;> first | (with_reducible assumption) | omega; done)))
    refine ret_eq ?_; simp only [go_sem]
    rfl
  | some x =>
    obtain ⟨a, b⟩ := x
    rw [h] at hm
    repeat ((with_reducible refine And.intro ?_ ?_); focus first | exact True.intro | omega | (intros; (with_reducible and_intros) <;> first | (with_reducible assumption) | omega; done) | (simp; done) | (simp; omega))
    refine (hm).val.use ?_; simp only [go_sem]
    repeat ((with_reducible refine And.intro ?_ ?_); focus first | exact True.intro | omega | (intros; (with_reducible and_intros) <;> first | (with_reducible assumption) | omega; done) | (simp; done) | (simp; omega))
    intro b5 b6 h6
    have n56 : ¬ b5 = b6 := by omega
    have n65 : ¬ b6 = b5 := by omega
    simp only [go_sem, n56, n65]
    repeat (first | ((with_reducible refine AWp.ofC ?_ ?_); (focus exact rfl); simp only [go_sem]) | ((with_reducible refine And.intro ?_ ?_); focus first | exact True.intro | omega | (intros; (with_reducible and_intros) <;> first | (with_reducible assumption) | omega; done)))
    refine ret_eq ?_; simp only [go_sem]
    rfl
/-- The error of a trace, of cuts, and of processes. -/
noncomputable def givenF (ps : List Pr) (l : List (List Int)) (procs : List Int) : Int :=
  if !sizedF ps l then 1 else if !l.all (inRangeF ps) then 2 else if !procs.all (fun p => decide (0 ≤ p) && decide (p < ps.length)) then 2 else if !l.all (closedF ps) then 18 else 0
theorem sizedF_inv {ps : List Pr} {l : List (List Int)} (h : sizedF ps l = true) : validF ps = true ∧ ∀ c ∈ l, c.length = ps.length := by
  unfold sizedF at h
  rw [Bool.and_eq_true] at h
  refine ⟨h.1, fun c hc => ?_⟩
  have := h.2
  rw [Bool.not_eq_true', List.any_eq_false] at this
  simpa using this c hc
theorem all_of_lt {α : Type} {l : List α} {p : α → Bool} (h : ∀ (i : Nat) (hi : i < l.length), p l[i] = true) : l.all p = true := by
  rw [List.all_eq_true]; intro x hx; obtain ⟨i, hi, rfl⟩ := List.getElem_of_mem hx; exact h i hi
theorem all_false_at {α : Type} {l : List α} {p : α → Bool} {i : Nat} (hi : i < l.length) (h : p l[i] = false) : l.all p = false := by
  rw [List.all_eq_false]; exact ⟨l[i], List.getElem_mem hi, by simp [h]⟩
theorem cut_given (ps : List Pr) (hs : Sm ps) (l : List (List Int)) (hl : l.length ≤ 1000000) (procs : List Int) (hp : procs.length ≤ 1000000) : PC Go.Proofs.Try.prog 54 [aTr ps, aRows l, aInts procs] (ai (givenF ps l procs)) := by
  refine PC.enter 50 [.tmp 6] [3] Go.Proofs.Try.func54 rfl rfl rfl rfl rfl (by simp) (AWp.of ?_); simp only [go_sem]
  repeat (first | ((with_reducible refine AWp.ofC ?_ ?_); (focus exact rfl); simp only [go_sem]) | ((with_reducible refine And.intro ?_ ?_); focus first | exact True.intro | omega | (intros; (with_reducible and_intros) <;> first | (with_reducible assumption) | omega; done)))
  repeat ((with_reducible refine And.intro ?_ ?_); focus first | exact True.intro | omega | (intros; (with_reducible and_intros) <;> first | (with_reducible assumption) | omega; done) | (simp; done) | (simp; omega))
  refine (cut_sized ps hs l hl).val.use ?_; simp only [go_sem]
  repeat (first | ((with_reducible refine AWp.ofC ?_ ?_); (focus exact rfl); simp only [go_sem]) | ((with_reducible refine And.intro ?_ ?_); focus first | exact True.intro | omega | (intros; (with_reducible and_intros) <;> first | (with_reducible assumption) | omega; done)))
  refine ⟨fun h1 => ?_, fun h1 => ?_⟩
  · repeat (first | ((with_reducible refine AWp.ofC ?_ ?_); (focus exact rfl); simp only [go_sem]) | ((with_reducible refine And.intro ?_ ?_); focus first | exact True.intro | omega | (intros; (with_reducible and_intros) <;> first | (with_reducible assumption) | omega; done)))
    refine ret_eq ?_; simp only [go_sem]
    unfold givenF; rw [if_pos (by simp [h1])]
  · obtain ⟨hv, hc⟩ := sizedF_inv h1
    repeat ((with_reducible refine And.intro ?_ ?_); focus first | exact True.intro | omega | (intros; (with_reducible and_intros) <;> first | (with_reducible assumption) | omega; done) | (simp; done) | (simp; omega))
    refine AWp.of ?_; simp only [go_sem]
    refine AWp.range' l.length [] [1, 2, 3, 17, 18] (fun k vs L => L = [] ∧ ∀ (i : Nat) (hi : i < l.length), i < k → inRangeF ps l[i] = true) (by omega) rfl rfl rfl ⟨rfl, by omega⟩ ?_ ?_
    · rintro k vs L' hk - ⟨rfl, hI⟩
      simp only [go_sem]
      repeat ((with_reducible refine And.intro ?_ ?_); focus first | exact True.intro | omega | (intros; (with_reducible and_intros) <;> first | (with_reducible assumption) | omega; done) | (simp; done) | (simp; omega))
      refine AWp.of ?_; simp only [go_sem, getD_map hk]
      repeat (first | ((with_reducible refine AWp.ofC ?_ ?_); (focus exact rfl); simp only [go_sem]) | ((with_reducible refine And.intro ?_ ?_); focus first | exact True.intro | omega | (intros; (with_reducible and_intros) <;> first | (with_reducible assumption) | omega; done)))
      repeat ((with_reducible refine And.intro ?_ ?_); focus first | exact True.intro | omega | (intros; (with_reducible and_intros) <;> first | (with_reducible assumption) | omega; done) | (simp; done) | (simp; omega))
      refine (cut_inRange ps hs l[k] (hc _ (List.getElem_mem hk))).val.use ?_; simp only [go_sem]
      repeat (first | ((with_reducible refine AWp.ofC ?_ ?_); (focus exact rfl); simp only [go_sem]) | ((with_reducible refine And.intro ?_ ?_); focus first | exact True.intro | omega | (intros; (with_reducible and_intros) <;> first | (with_reducible assumption) | omega; done)))
      refine ⟨fun h2 => ?_, fun h2 => ?_⟩
      · repeat (first | ((with_reducible refine AWp.ofC ?_ ?_); (focus exact rfl); simp only [go_sem]) | ((with_reducible refine And.intro ?_ ?_); focus first | exact True.intro | omega | (intros; (with_reducible and_intros) <;> first | (with_reducible assumption) | omega; done)))
        refine ret_eq ?_; simp only [go_sem]
        unfold givenF; rw [if_neg (by simp [h1]), if_pos (by rw [all_false_at hk h2]; rfl)]
      · refine ⟨_, List.Sublist.refl _, rfl, fun i hi hik => ?_⟩
        by_cases e : i = k
        · subst e; exact h2
        · exact hI i hi (by omega)
    · rintro vs L' - ⟨rfl, hI⟩
      have ha := all_of_lt (p := inRangeF ps) (fun i hi => hI i hi hi)
      simp only [go_sem]
      repeat ((with_reducible refine And.intro ?_ ?_); focus first | exact True.intro | omega | (intros; (with_reducible and_intros) <;> first | (with_reducible assumption) | omega; done) | (simp; done) | (simp; omega))
      refine AWp.of ?_; simp only [go_sem]
      refine AWp.range' procs.length [] [1, 3, 28, 29] (fun k vs L => L = [] ∧ ∀ (i : Nat) (hi : i < procs.length), i < k → (decide (0 ≤ procs[i]) && decide (procs[i] < ps.length)) = true) (by omega) rfl rfl rfl ⟨rfl, by omega⟩ ?_ ?_
      · rintro k vs L' hk - ⟨rfl, hI⟩
        simp only [go_sem]
        repeat ((with_reducible refine And.intro ?_ ?_); focus first | exact True.intro | omega | (intros; (with_reducible and_intros) <;> first | (with_reducible assumption) | omega; done) | (simp; done) | (simp; omega))
        refine AWp.of ?_; simp only [go_sem, getD_map hk]
        repeat (first | ((with_reducible refine AWp.ofC ?_ ?_); (focus exact rfl); simp only [go_sem]) | ((with_reducible refine And.intro ?_ ?_); focus first | exact True.intro | omega | (intros; (with_reducible and_intros) <;> first | (with_reducible assumption) | omega; done)))
        repeat ((with_reducible refine And.intro ?_ ?_); focus first | exact True.intro | omega | (intros; (with_reducible and_intros) <;> first | (with_reducible assumption) | omega; done) | (simp; done) | (simp; omega))
        refine (cut_process ps procs[k]).val.use ?_; simp only [go_sem]
        repeat (first | ((with_reducible refine AWp.ofC ?_ ?_); (focus exact rfl); simp only [go_sem]) | ((with_reducible refine And.intro ?_ ?_); focus first | exact True.intro | omega | (intros; (with_reducible and_intros) <;> first | (with_reducible assumption) | omega; done)))
        refine ⟨fun h2 => ?_, fun h2 h3 => ?_⟩
        · repeat (first | ((with_reducible refine AWp.ofC ?_ ?_); (focus exact rfl); simp only [go_sem]) | ((with_reducible refine And.intro ?_ ?_); focus first | exact True.intro | omega | (intros; (with_reducible and_intros) <;> first | (with_reducible assumption) | omega; done)))
          refine ret_eq ?_; simp only [go_sem]
          unfold givenF; rw [if_neg (by simp [h1]), if_neg (by simp [ha]), if_pos (by rw [all_false_at hk (by simpa using h2)]; rfl)]
        · refine ⟨_, List.Sublist.refl _, rfl, fun i hi hik => ?_⟩
          by_cases e : i = k
          · subst e; exact ⟨h2, h3⟩
          · have := hI i hi (by omega); simpa using this
      · rintro vs L' - ⟨rfl, hI⟩
        have hb := all_of_lt (l := procs) (p := fun p => decide (0 ≤ p) && decide (p < (ps.length : Int))) (fun i hi => by have := hI i hi hi; simpa using this)
        simp only [go_sem]
        repeat ((with_reducible refine And.intro ?_ ?_); focus first | exact True.intro | omega | (intros; (with_reducible and_intros) <;> first | (with_reducible assumption) | omega; done) | (simp; done) | (simp; omega))
        refine AWp.of ?_; simp only [go_sem]
        refine AWp.range' l.length [] [3, 39, 40] (fun k vs L => L = [] ∧ ∀ (i : Nat) (hi : i < l.length), i < k → closedF ps l[i] = true) (by omega) rfl rfl rfl ⟨rfl, by omega⟩ ?_ ?_
        · rintro k vs L' hk - ⟨rfl, hI⟩
          have hir : inRangeF ps l[k] = true := by rw [List.all_eq_true] at ha; exact ha _ (List.getElem_mem hk)
          simp only [go_sem]
          repeat ((with_reducible refine And.intro ?_ ?_); focus first | exact True.intro | omega | (intros; (with_reducible and_intros) <;> first | (with_reducible assumption) | omega; done) | (simp; done) | (simp; omega))
          refine AWp.of ?_; simp only [go_sem, getD_map hk]
          repeat (first | ((with_reducible refine AWp.ofC ?_ ?_); (focus exact rfl); simp only [go_sem]) | ((with_reducible refine And.intro ?_ ?_); focus first | exact True.intro | omega | (intros; (with_reducible and_intros) <;> first | (with_reducible assumption) | omega; done)))
          repeat ((with_reducible refine And.intro ?_ ?_); focus first | exact True.intro | omega | (intros; (with_reducible and_intros) <;> first | (with_reducible assumption) | omega; done) | (simp; done) | (simp; omega))
          refine (cut_closed ps hs l[k] hv (hc _ (List.getElem_mem hk)) hir).val.use ?_; simp only [go_sem]
          repeat (first | ((with_reducible refine AWp.ofC ?_ ?_); (focus exact rfl); simp only [go_sem]) | ((with_reducible refine And.intro ?_ ?_); focus first | exact True.intro | omega | (intros; (with_reducible and_intros) <;> first | (with_reducible assumption) | omega; done)))
          refine ⟨fun h2 => ?_, fun h2 => ?_⟩
          · repeat (first | ((with_reducible refine AWp.ofC ?_ ?_); (focus exact rfl); simp only [go_sem]) | ((with_reducible refine And.intro ?_ ?_); focus first | exact True.intro | omega | (intros; (with_reducible and_intros) <;> first | (with_reducible assumption) | omega; done)))
            refine ret_eq ?_; simp only [go_sem]
            unfold givenF; rw [if_neg (by simp [h1]), if_neg (by simp [ha]), if_neg (by rw [hb]; decide), if_pos (by rw [all_false_at hk h2]; rfl)]
          · refine ⟨_, List.Sublist.refl _, rfl, fun i hi hik => ?_⟩
            by_cases e : i = k
            · subst e; exact h2
            · exact hI i hi (by omega)
        · rintro vs L' - ⟨rfl, hI⟩
          have hd := all_of_lt (p := closedF ps) (fun i hi => hI i hi hi)
          simp only [go_sem]
          repeat (first | ((with_reducible refine AWp.ofC ?_ ?_); (focus exact rfl); simp only [go_sem]) | ((with_reducible refine And.intro ?_ ?_); focus first | exact True.intro | omega | (intros; (with_reducible and_intros) <;> first | (with_reducible assumption) | omega; done)))
          refine ret_eq ?_; simp only [go_sem]
          unfold givenF; rw [if_neg (by simp [h1]), if_neg (by simp [ha]), if_neg (by rw [hb]; decide), if_neg (by rw [hd]; decide)]
/-- The last events of a cut. -/
def frontL : Nat → List Int → List Eid
  | _, [] => []
  | p, n :: r => (if 0 < n then [((p : Int), n)] else []) ++ frontL (p + 1) r
theorem frontL_append (l r : List Int) (p : Nat) : frontL p (l ++ r) = frontL p l ++ frontL (p + l.length) r := by
  induction l generalizing p with
  | nil => rfl
  | cons n l ih => simp only [List.cons_append, frontL, ih, List.append_assoc, List.length_cons]; rw [show p + 1 + l.length = p + (l.length + 1) by omega]
theorem frontL_length (l : List Int) (p : Nat) : (frontL p l).length ≤ l.length := by
  induction l generalizing p with
  | nil => simp [frontL]
  | cons n l ih =>
    have := ih (p + 1)
    simp only [frontL, List.length_append, List.length_cons]
    split <;> simp <;> omega
theorem frontL_succ (c : List Int) (k : Nat) (hk : k < c.length) : frontL 0 (c.take (k + 1)) = frontL 0 (c.take k) ++ (if 0 < c[k] then [((k : Int), c[k])] else []) := by
  rw [List.take_succ_eq_append_getElem hk, frontL_append]
  simp only [frontL, List.append_nil, List.length_take]
  rw [show 0 + min k c.length = k by omega]
noncomputable def aFront (ps : List Pr) (c : List Int) : AV := if givenF ps [c] [] ≠ 0 then .tup [.sl 2 [], ai (givenF ps [c] [])] else .tup [aEids (frontL 0 c), ai 0]
theorem cut_Frontier (ps : List Pr) (hs : Sm ps) (c : List Int) (hcl : c.length ≤ 1000000) : PC Go.Proofs.Try.prog 48 [aTr ps, aInts c] (aFront ps c) := by
  have hg := cut_given ps hs [c] (by simp) [] (by simp)
  refine PC.enter 34 [.tmp 4, .tmp 5] [2, 12, 30] Go.Proofs.Try.func48 rfl rfl rfl rfl rfl (by simp) (AWp.of ?_); simp only [go_sem]
  repeat (first | ((with_reducible refine AWp.ofC ?_ ?_); (focus exact rfl); simp only [go_sem]) | ((with_reducible refine And.intro ?_ ?_); focus first | exact True.intro | omega | (intros; (with_reducible and_intros) <;> first | (with_reducible assumption) | omega; done)))
  refine (PC.view (Vws.cons (.refl _) (Vws.cons (.refl _) (Vws.cons (.nil 1) .nil))) hg (Own.v _) ?_).val
  unfold aFront
  simp only [go_sem]
  repeat (first | ((with_reducible refine AWp.ofC ?_ ?_); (focus exact rfl); simp only [go_sem]) | ((with_reducible refine And.intro ?_ ?_); focus first | exact True.intro | omega | (intros; (with_reducible and_intros) <;> first | (with_reducible assumption) | omega; done)))
  refine ⟨fun h1 => ?_, fun h1 => ?_⟩
  · rw [if_pos h1]
    repeat (first | ((with_reducible refine AWp.ofC ?_ ?_); (focus exact rfl); simp only [go_sem]) | ((with_reducible refine And.intro ?_ ?_); focus first | exact True.intro | omega | (intros; (with_reducible and_intros) <;> first | (with_reducible assumption) | omega; done)))
    refine ret_view [] ?_; simp only [go_sem]
    exact .mkTup (Vws.cons (.nil 2) (Vws.refl _))
  · rw [if_neg (by simp [h1])]
    repeat ((with_reducible refine And.intro ?_ ?_); focus first | exact True.intro | omega | (intros; (with_reducible and_intros) <;> first | (with_reducible assumption) | omega; done) | (simp; done) | (simp; omega))
    refine AWp.of ?_; simp only [go_sem]
    repeat ((with_reducible refine And.intro ?_ ?_); focus first | exact True.intro | omega | (intros; (with_reducible and_intros) <;> first | (with_reducible assumption) | omega; done) | (simp; done) | (simp; omega))
    refine AWp.of ?_; simp only [go_sem]
    refine AWp.range' c.length [7] [17, 18] (fun k vs L => ∃ v, vs = [v] ∧ AppSt 81 2 ((frontL 0 (c.take k)).map aEid) v L) (by omega) rfl rfl rfl ⟨anil, rfl, by simp only [List.take_zero, frontL, List.map_nil]; exact .nil⟩ ?_ ?_
    · rintro k vs L' hk - ⟨v, rfl, hA⟩
      have hfl := frontL_length (c.take k) 0
      have htl : (c.take k).length ≤ c.length := by simp; omega
      have hsu := frontL_succ c k hk
      rcases hA.inv with ⟨e1, rfl, rfl⟩ | ⟨b, cap, rfl, rfl⟩
      · simp only [go_sem]
        repeat ((with_reducible refine And.intro ?_ ?_); focus first | exact True.intro | omega | (intros; (with_reducible and_intros) <;> first | (with_reducible assumption) | omega; done) | (simp; done) | (simp; omega))
        refine AWp.of ?_; simp only [go_sem, getD_map hk]
        repeat (first | ((with_reducible refine AWp.ofC ?_ ?_); (focus exact rfl); simp only [go_sem]) | ((with_reducible refine And.intro ?_ ?_); focus first | exact True.intro | omega | (intros; (with_reducible and_intros) <;> first | (with_reducible assumption) | omega; done)))
        refine ⟨fun h2 => ?_, fun h2 => ?_⟩
        · repeat (first | ((with_reducible refine AWp.ofC ?_ ?_); (focus exact rfl); simp only [go_sem]) | ((with_reducible refine And.intro ?_ ?_); focus first | exact True.intro | omega | (intros; (with_reducible and_intros) <;> first | (with_reducible assumption) | omega; done)))
          intro b' cap' _
          refine ⟨_, List.Sublist.refl _, _, rfl, ?_⟩
          rw [hsu, if_pos h2, List.map_append, e1]
          exact .row b' _ cap'
        · exact ⟨_, List.Sublist.refl _, _, rfl, by rw [hsu, if_neg h2, List.append_nil]; exact hA⟩
      · simp only [go_sem]
        repeat ((with_reducible refine And.intro ?_ ?_); focus first | exact True.intro | omega | (intros; (with_reducible and_intros) <;> first | (with_reducible assumption) | omega; done) | (simp; done) | (simp; omega))
        refine AWp.of ?_; simp only [go_sem, getD_map hk]
        repeat (first | ((with_reducible refine AWp.ofC ?_ ?_); (focus exact rfl); simp only [go_sem]) | ((with_reducible refine And.intro ?_ ?_); focus first | exact True.intro | omega | (intros; (with_reducible and_intros) <;> first | (with_reducible assumption) | omega; done)))
        refine ⟨fun h2 => ?_, fun h2 => ?_⟩
        · repeat ((with_reducible refine And.intro ?_ ?_); focus first | exact True.intro | omega | (intros; (with_reducible and_intros) <;> first | (with_reducible assumption) | omega; done) | (simp; done) | (simp; omega))
          intro b' cap' _
          refine ⟨_, List.Sublist.refl _, _, rfl, ?_⟩
          rw [hsu, if_pos h2, List.map_append]
          have := AppSt.row (t := 81) (k := 2) b' (List.map aEid (frontL 0 (List.take k c)) ++ List.map aEid [((k : Int), c[k])]) cap'
          simpa [aEid] using this
        · exact ⟨_, List.Sublist.refl _, _, rfl, by rw [hsu, if_neg h2, List.append_nil]; simpa using hA⟩
    · rintro vs L' - ⟨v, rfl, hA⟩
      rw [List.take_length] at hA
      simp only [go_sem]
      rcases hA.inv with ⟨e1, rfl, rfl⟩ | ⟨b, cap, rfl, rfl⟩
      · repeat (first | ((with_reducible refine AWp.ofC ?_ ?_); (focus exact rfl); simp only [go_sem]) | ((with_reducible refine And.intro ?_ ?_); focus first | exact True.intro | omega | (intros; (with_reducible and_intros) <;> first | (with_reducible assumption) | omega; done)))
        refine ret_view [] ?_; simp only [go_sem]
        rw [e1]
        exact .mkTup (Vws.cons (.nil 2) (Vws.refl _))
      · repeat (first | ((with_reducible refine AWp.ofC ?_ ?_); (focus exact rfl); simp only [go_sem]) | ((with_reducible refine And.intro ?_ ?_); focus first | exact True.intro | omega | (intros; (with_reducible and_intros) <;> first | (with_reducible assumption) | omega; done)))
        refine ret_view [true] ?_; simp only [go_sem]
        exact .mkTup (Vws.cons (Vw.ofLs (if_pos rfl) (by simp)) (Vws.refl _))
end Go.AL
