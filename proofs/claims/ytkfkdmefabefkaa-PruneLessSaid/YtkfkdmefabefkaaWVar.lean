/- The package variable: values in states. No condition. -/
import Derived.Test.YtkfkdmefabefkaaWCut2
namespace Go.AL
open Go Go.RowKit
set_option maxRecDepth 4000
def assignL (s : List Int) (l : List (Int × Int)) : List Int := l.foldl (fun s a => s.set a.1.toNat a.2) s
/-- The values in the state k. -/
def stateAt (x : Pr) (k : Nat) : List Int := (x.evs.take k).foldl (fun s e => assignL s e.asg) (x.vars.map (·.2))
theorem assignL_length (l : List (Int × Int)) (s : List Int) : (assignL s l).length = s.length := by
  induction l generalizing s with
  | nil => rfl
  | cons a l ih => simp only [assignL, List.foldl_cons] at *; rw [ih]; simp
theorem stateAt_length (x : Pr) (k : Nat) : (stateAt x k).length = x.vars.length := by
  unfold stateAt
  generalize x.evs.take k = l
  have key : ∀ s : List Int, (l.foldl (fun s e => assignL s e.asg) s).length = s.length := by
    induction l with
    | nil => intro s; rfl
    | cons e l ih => intro s; simp only [List.foldl_cons]; rw [ih, assignL_length]
  rw [key]; simp
theorem stateAt_succ (x : Pr) (k : Nat) (hk : k < x.evs.length) : stateAt x (k + 1) = assignL (stateAt x k) x.evs[k].asg := by
  unfold stateAt
  rw [List.take_succ_eq_append_getElem hk, List.foldl_append]; rfl
theorem assignL_succ (s : List Int) (l : List (Int × Int)) (k : Nat) (hk : k < l.length) : assignL s (l.take (k + 1)) = (assignL s (l.take k)).set l[k].1.toNat l[k].2 := by
  unfold assignL
  rw [List.take_succ_eq_append_getElem hk, List.foldl_append]; rfl
def stArgs (x : Pr) : List (List AV) := (List.range (x.evs.length + 1)).map fun (k : Nat) => [ai k, aInts (stateAt x k)]
theorem stArgs_get (x : Pr) (k : Nat) (hk : k ≤ x.evs.length) : (stArgs x)[k]? = some [ai k, aInts (stateAt x k)] := by
  unfold stArgs; rw [List.getElem?_map, List.getElem?_range (by omega)]; rfl
/-- Assignments are to variables that there are. -/
def AsgOk (x : Pr) : Prop := ∀ e ∈ x.evs, ∀ a ∈ e.asg, 0 ≤ a.1 ∧ a.1 < x.vars.length
theorem variable_states (x : Pr) : PC Go.Proofs.Try.prog 55 [aPr x] (.clo 66 [.rp 3 [aPr x] 0 0]) := by
  refine PC.enter 4 [.tmp 2] [1] Go.Proofs.Try.func55 rfl rfl rfl rfl rfl (by simp) (AWp.of ?_); simp only [go_sem]
  repeat (first | ((with_reducible refine AWp.ofC ?_ ?_); (focus exact rfl); simp only [go_sem]) | ((with_reducible refine And.intro ?_ ?_); focus first | exact True.intro | omega | (intros; (with_reducible and_intros) <;> first | (with_reducible assumption) | omega; done)))
  refine ret_eq ?_; simp only [go_sem]
theorem variable_states1 (x : Pr) (h1 : x.vars.length ≤ 1000000) (h2 : x.evs.length ≤ 1000000) (h3 : ∀ e ∈ x.evs, e.asg.length ≤ 1000000) (ha : AsgOk x) : IterC Go.Proofs.Try.prog (.clo 66 [.rp 3 [aPr x] 0 0]) (stArgs x) := by
  intro y L I S hy h0 step
  refine MCalls.clo ?_
  simp only [List.cons_append, List.nil_append]
  have step' : ∀ (k : Nat) (hk : k ≤ x.evs.length) L', I k L' → MVal Go.Proofs.Try.prog y [ai k, aInts (stateAt x k)] L' fun r L'' => (r = ab true ∧ I (k + 1) L'') ∨ (r = ab false ∧ S L'') := fun k hk L' hI =>
    step k _ L' (stArgs_get x k hk) hI
  have hlen : (stArgs x).length = x.evs.length + 1 := by unfold stArgs; simp
  rw [hlen]
  refine MCalls.enter' 58 [] [5, 7, 9, 20] Go.Proofs.Try.func66 rfl rfl rfl rfl rfl (by simp) (AWp.of ?_); simp only [go_sem]
  refine AWp.cut [0, 1, 3] (fun vs L' => ∃ v Ln, vs = [y, .rp 3 [aPr x] 0 0, v] ∧ L' = Ln ++ L ∧ AppSt 3 1 ((x.vars.map (·.2)).map ai) v Ln) ?_ ?_
  · repeat ((with_reducible refine And.intro ?_ ?_); focus first | exact True.intro | omega | (intros; (with_reducible and_intros) <;> first | (with_reducible assumption) | omega; done) | (simp; done) | (simp; omega))
    refine AWp.of ?_; simp only [go_sem]
    refine AWp.range' x.vars.length [3] [0, 1, 11, 12] (fun k vs L' => ∃ v Ln, vs = [v] ∧ L' = Ln ++ L ∧ AppSt 3 1 (((x.vars.take k).map (·.2)).map ai) v Ln) (by omega) rfl rfl rfl ⟨anil, [], rfl, rfl, .nil⟩ ?_ ?_
    · rintro k vs L' hk - ⟨v, Ln, rfl, rfl, hA⟩
      have hsu : ((x.vars.take (k + 1)).map (·.2)).map ai = ((x.vars.take k).map (·.2)).map ai ++ [ai x.vars[k].2] := by
        rw [List.take_succ_eq_append_getElem hk, List.map_append, List.map_append]; rfl
      have htl : (x.vars.take k).length ≤ x.vars.length := by simp; omega
      rw [hsu]
      generalize hys : ((x.vars.take k).map (·.2)).map ai = ys at *
      have hyl : ys.length ≤ x.vars.length := by rw [← hys]; simpa using htl
      rcases hA.inv with ⟨e1, rfl, rfl⟩ | ⟨b, cap, rfl, rfl⟩
      · simp only [go_sem]
        repeat ((with_reducible refine And.intro ?_ ?_); focus first | exact True.intro | omega | (intros; (with_reducible and_intros) <;> first | (with_reducible assumption) | omega; done) | (simp; done) | (simp; omega))
        refine AWp.of ?_; simp only [go_sem, getD_map hk]
        repeat ((with_reducible refine And.intro ?_ ?_); focus first | exact True.intro | omega | (intros; (with_reducible and_intros) <;> first | (with_reducible assumption) | omega; done) | (simp; done) | (simp; omega))
        intros
        refine AWp.of ?_; simp only [go_sem]
        repeat ((with_reducible refine And.intro ?_ ?_); focus first | exact True.intro | omega | (intros; (with_reducible and_intros) <;> first | (with_reducible assumption) | omega; done) | (simp; done) | (simp; omega))
        intro b' cap' _ _
        refine ⟨_, List.Sublist.refl _, _, [(b', .row 3 1 [ai x.vars[k].2] cap')], rfl, rfl, ?_⟩
        rw [e1]
        exact .row _ _ _
      · simp only [go_sem]
        repeat ((with_reducible refine And.intro ?_ ?_); focus first | exact True.intro | omega | (intros; (with_reducible and_intros) <;> first | (with_reducible assumption) | omega; done) | (simp; done) | (simp; omega))
        refine AWp.of ?_; simp only [go_sem, getD_map hk]
        repeat ((with_reducible refine And.intro ?_ ?_); focus first | exact True.intro | omega | (intros; (with_reducible and_intros) <;> first | (with_reducible assumption) | omega; done) | (simp; done) | (simp; omega))
        intros
        refine AWp.of ?_; simp only [go_sem]
        repeat ((with_reducible refine And.intro ?_ ?_); focus first | exact True.intro | omega | (intros; (with_reducible and_intros) <;> first | (with_reducible assumption) | omega; done) | (simp; done) | (simp; omega))
        intro b' cap' _ _
        refine ⟨_, List.Sublist.refl _, _, [(b', .row 3 1 (ys ++ [ai x.vars[k].2]) cap')], rfl, rfl, ?_⟩
        have := AppSt.row (t := 3) (k := 1) b' (ys ++ [ai x.vars[k].2]) cap'
        simpa using this
    · rintro vs L' - ⟨v, Ln, rfl, rfl, hA⟩
      simp only [go_sem]
      rw [List.take_length] at hA
      exact ⟨_, List.Sublist.refl _, _, _, rfl, rfl, hA⟩
  · rintro vs L' - ⟨v, Ln, rfl, rfl, hA⟩
    have hst0 : x.vars.map (·.2) = stateAt x 0 := by simp [stateAt]
    rw [hst0] at hA
    have hfo := hA.fo
    -- one call of the round, with a copy of what the memory holds
    have give : ∀ (k : Nat) (Ln Li : AHeap) (_ : k ≤ x.evs.length), AppSt 3 1 ((stateAt x k).map ai) v Ln → I k Li →
        MVal Go.Proofs.Try.prog (.v (.func (.func 18) #[] #[])) [v] (Ln ++ Li) fun r L' => fo r = (True, r) ∧ ∀ K : AV → AHeap → Prop,
          (∀ L2, I (k + 1) L2 → K (ab true) (Ln ++ L2)) → (∀ L2, S L2 → K (ab false) (Ln ++ L2)) → MVal Go.Proofs.Try.prog y [ai k, r] L' K := fun k Ln Li hk hA hI => by
      have hc := (MCalls.viewed (Vws.cons (hA.vw Li) .nil) (ints_cloneO (stateAt x k) (by rw [stateAt_length]; omega)) (fun r L1 h => h.own (own_ints _))).val
      refine hc.mono ?_
      rintro r L' ⟨L1, rfl, hA1⟩
      refine ⟨hA1.fo, fun K h1 h2 => ?_⟩
      have hvw : Vw L1 r (aInts (stateAt x k)) := by have := hA1.vw []; rw [List.append_nil] at this; exact this
      refine MVal.pass (Lf := L1) (Li := Li) (Lr := Ln) (List.Perm.append_left _ List.perm_append_comm) (Vws.cons (.refl _) (Vws.cons hvw .nil)) (step' k hk Li hI) ?_
      rintro r' L2 (⟨rfl, hI2⟩ | ⟨rfl, hS⟩)
      · exact ⟨_, List.perm_append_comm, h1 _ hI2⟩
      · exact ⟨_, List.perm_append_comm, h2 _ hS⟩
    simp only [go_sem]
    repeat ((with_reducible refine And.intro ?_ ?_); focus first | exact True.intro | omega | (intros; (with_reducible and_intros) <;> first | (with_reducible assumption) | omega; done) | (simp; done) | (simp; omega))
    refine AWp.of ?_; simp only [go_sem, hfo]
    simp only [hy, true_and]
    refine (give 0 Ln L (by omega) hA h0).mono ?_
    rintro r L' ⟨hr, hK⟩
    simp only [go_sem, hr, hy]
    refine hK _ ?_ ?_
    · intro L2 hI
      simp only [go_sem]
      repeat ((with_reducible refine And.intro ?_ ?_); focus first | exact True.intro | omega | (intros; (with_reducible and_intros) <;> first | (with_reducible assumption) | omega; done) | (simp; done) | (simp; omega))
      refine AWp.of ?_; simp only [go_sem]
      repeat ((with_reducible refine And.intro ?_ ?_); focus first | exact True.intro | omega | (intros; (with_reducible and_intros) <;> first | (with_reducible assumption) | omega; done) | (simp; done) | (simp; omega))
      refine AWp.of ?_; simp only [go_sem]
      refine AWp.range' x.evs.length [] [0, 3, 29, 30] (fun k vs L' => ∃ Ln Li, L' = Ln ++ Li ∧ I (k + 1) Li ∧ AppSt 3 1 ((stateAt x k).map ai) v Ln) (by omega) rfl rfl rfl ⟨Ln, L2, rfl, hI, hA⟩ ?_ ?_
      · rintro k vs L' hk - ⟨Ln, Li, rfl, hI, hA⟩
        simp only [go_sem]
        repeat ((with_reducible refine And.intro ?_ ?_); focus first | exact True.intro | omega | (intros; (with_reducible and_intros) <;> first | (with_reducible assumption) | omega; done) | (simp; done) | (simp; omega))
        refine AWp.of ?_; simp only [go_sem, getD_map hk]
        have hem : x.evs[k] ∈ x.evs := List.getElem_mem hk
        have hal := h3 _ hem
        have hao := ha _ hem
        have hsu := stateAt_succ x k hk
        repeat ((with_reducible refine And.intro ?_ ?_); focus first | exact True.intro | omega | (intros; (with_reducible and_intros) <;> first | (with_reducible assumption) | omega; done) | (simp; done) | (simp; omega))
        intros
        refine AWp.of ?_; simp only [go_sem]
        refine AWp.range' x.evs[k].asg.length [] [0, 3, 6, 29, 30, 31, 37, 38] (fun j vs L' => ∃ Ln Li, L' = Ln ++ Li ∧ I (k + 1) Li ∧ AppSt 3 1 ((assignL (stateAt x k) (x.evs[k].asg.take j)).map ai) v Ln) (by omega) rfl rfl rfl ⟨Ln, Li, rfl, hI, hA⟩ ?_ ?_
        · rintro j vs L' hj - ⟨Ln, Li, rfl, hI, hA⟩
          obtain ⟨ha1, ha2⟩ := hao _ (List.getElem_mem hj)
          have hl2 : (assignL (stateAt x k) (x.evs[k].asg.take j)).length = x.vars.length := by rw [assignL_length, stateAt_length]
          have hs2 := assignL_succ (stateAt x k) x.evs[k].asg j hj
          rcases hA.inv with ⟨e1, rfl, rfl⟩ | ⟨b, cap, rfl, rfl⟩
          · have : (assignL (stateAt x k) (x.evs[k].asg.take j)).length = 0 := by simpa using congrArg List.length e1
            omega
          · generalize hS' : assignL (stateAt x k) (x.evs[k].asg.take j) = s' at *
            have hn : x.evs[k].asg[j].1.toNat < s'.length := by omega
            simp only [go_sem]
            repeat ((with_reducible refine And.intro ?_ ?_); focus first | exact True.intro | omega | (intros; (with_reducible and_intros) <;> first | (with_reducible assumption) | omega; done) | (simp; done) | (simp; omega))
            refine AWp.of ?_; simp only [go_sem, getD_map hj]
            repeat ((with_reducible refine And.intro ?_ ?_); focus first | exact True.intro | omega | (intros; (with_reducible and_intros) <;> first | (with_reducible assumption) | omega; done) | (simp; done) | (simp; omega))
            intros
            refine AWp.of ?_; simp only [go_sem, getD_map hn]
            repeat ((with_reducible refine And.intro ?_ ?_); focus first | exact True.intro | omega | (intros; (with_reducible and_intros) <;> first | (with_reducible assumption) | omega; done) | (simp; done) | (simp; omega))
            refine ⟨_, List.Sublist.refl _, [(b, .row 3 1 ((s'.map ai).set x.evs[k].asg[j].1.toNat (ai x.evs[k].asg[j].2)) cap)], Li, rfl, hI, ?_⟩
            rw [hs2, List.map_set]
            have := AppSt.row (t := 3) (k := 1) b ((s'.map ai).set x.evs[k].asg[j].1.toNat (ai x.evs[k].asg[j].2)) cap
            simpa using this
        · rintro vs L' - ⟨Ln, Li, rfl, hI, hA⟩
          rw [List.take_length, ← hsu] at hA
          simp only [go_sem]
          repeat ((with_reducible refine And.intro ?_ ?_); focus first | exact True.intro | omega | (intros; (with_reducible and_intros) <;> first | (with_reducible assumption) | omega; done) | (simp; done) | (simp; omega))
          refine AWp.of ?_; simp only [go_sem, hfo]
          simp only [hy, true_and]
          repeat ((with_reducible refine And.intro ?_ ?_); focus first | exact True.intro | omega | (intros; (with_reducible and_intros) <;> first | (with_reducible assumption) | omega; done) | (simp; done) | (simp; omega))
          refine (give (k + 1) Ln Li (by omega) hA hI).mono ?_
          rintro r L' ⟨hr, hK⟩
          simp only [go_sem, hr, hy]
          refine hK _ ?_ ?_
          · intro L2 hI
            simp only [go_sem]
            repeat (first | ((with_reducible refine AWp.ofC ?_ ?_); (focus exact rfl); simp only [go_sem]) | ((with_reducible refine And.intro ?_ ?_); focus first | exact True.intro | omega | (intros; (with_reducible and_intros) <;> first | (with_reducible assumption) | omega; done)))
            exact ⟨_, List.Sublist.refl _, Ln, L2, rfl, hI, hA⟩
          · intro L2 hS
            simp only [go_sem]
            repeat (first | ((with_reducible refine AWp.ofC ?_ ?_); (focus exact rfl); simp only [go_sem]) | ((with_reducible refine And.intro ?_ ?_); focus first | exact True.intro | omega | (intros; (with_reducible and_intros) <;> first | (with_reducible assumption) | omega; done)))
            refine ret_sub L2 (List.sublist_append_right _ _) ?_
            simp only [go_sem]
            exact .inr hS
      · rintro vs L' - ⟨Ln, Li, rfl, hI, hA⟩
        simp only [go_sem]
        refine ret_sub Li (List.sublist_append_right _ _) ?_
        simp only [go_sem]
        exact .inl hI
    · intro L2 hS
      simp only [go_sem]
      repeat (first | ((with_reducible refine AWp.ofC ?_ ?_); (focus exact rfl); simp only [go_sem]) | ((with_reducible refine And.intro ?_ ?_); focus first | exact True.intro | omega | (intros; (with_reducible and_intros) <;> first | (with_reducible assumption) | omega; done)))
      refine ret_sub L2 (List.sublist_append_right _ _) ?_
      simp only [go_sem]
      exact .inr hS
theorem variable_state (x : Pr) (h1 : x.vars.length ≤ 1000000) (h2 : x.evs.length ≤ 1000000) (h3 : ∀ e ∈ x.evs, e.asg.length ≤ 1000000) (ha : AsgOk x) (k : Nat) (hk : k ≤ x.evs.length) :
    PC Go.Proofs.Try.prog 49 [aPr x, ai k] (aInts (stateAt x k)) := by
  refine PC.enter 15 [.cell 4 25] [2, 3] Go.Proofs.Try.func49 rfl rfl rfl rfl rfl (by simp) (AWp.of ?_); simp only [go_sem]
  intro b4
  repeat ((with_reducible refine And.intro ?_ ?_); focus first | exact True.intro | omega | (intros; (with_reducible and_intros) <;> first | (with_reducible assumption) | omega; done) | (simp; done) | (simp; omega))
  refine AWp.of ?_; simp only [go_sem]
  repeat ((with_reducible refine And.intro ?_ ?_); focus first | exact True.intro | omega | (intros; (with_reducible and_intros) <;> first | (with_reducible assumption) | omega; done) | (simp; done) | (simp; omega))
  refine (variable_states x).val.use ?_; simp only [go_sem]
  refine AWp.block (AWp.rangeFunc rfl [3, 4] (stArgs x) (fun j L => L = [(b4, .row 25 1 [anil] 1)] ∧ j ≤ k) (fun e L => e = .ret ∧ L = [(b4, .row 25 1 [aInts (stateAt x k)] 1)])
    rfl (variable_states1 x h1 h2 h3 ha) (fun y hy => by obtain ⟨j, hj⟩ := List.getElem?_of_mem hy; unfold stArgs at hj; rw [List.getElem?_map, Option.map_eq_some_iff] at hj; obtain ⟨_, _, rfl⟩ := hj; rfl) ⟨rfl, by omega⟩ ?_ ?_ ?_)
  · rintro j y L' l hy ⟨rfl, hj⟩
    have hjl : j ≤ x.evs.length := by omega
    rw [stArgs_get x j hjl] at hy
    cases hy
    simp only [go_sem]
    repeat (first | ((with_reducible refine AWp.ofC ?_ ?_); (focus exact rfl); simp only [go_sem]) | ((with_reducible refine And.intro ?_ ?_); focus first | exact True.intro | omega | (intros; (with_reducible and_intros) <;> first | (with_reducible assumption) | omega; done)))
    refine ⟨fun h => ?_, fun h => ?_⟩
    · have : j = k := by omega
      subst this
      repeat (first | ((with_reducible refine AWp.ofC ?_ ?_); (focus exact rfl); simp only [go_sem]) | ((with_reducible refine And.intro ?_ ?_); focus first | exact True.intro | omega | (intros; (with_reducible and_intros) <;> first | (with_reducible assumption) | omega; done)))
      exact ⟨_, List.Sublist.refl _, rfl⟩
    · exact ⟨_, List.Sublist.refl _, rfl, by omega⟩
  · rintro L' ⟨rfl, hj⟩
    have : (stArgs x).length = x.evs.length + 1 := by unfold stArgs; simp
    omega
  · rintro e L' ⟨he, rfl⟩
    subst he
    show retK _ _ _ _ _
    refine ret_eq ?_
    simp only [go_sem]
/-- The values at a cut. -/
def valuesAt (ps : List Pr) (c : List Int) : List (List Int) := (ps.zip c).map fun x => stateAt x.1 x.2.toNat
noncomputable def aAt (ps : List Pr) (c : List Int) : AV := if givenF ps [c] [] ≠ 0 then .tup [.sl 1 [], ai (givenF ps [c] [])] else .tup [aRows (valuesAt ps c), ai 0]
theorem asg_of_valid {ps : List Pr} (h : validF ps = true) : ∀ (p : Nat) (hp : p < ps.length), AsgOk ps[p] := by
  intro p hp e he a haa
  obtain ⟨i, hi, rfl⟩ := List.getElem_of_mem he
  obtain ⟨k, hk, rfl⟩ := List.getElem_of_mem haa
  have hef : evFirst ps = none := by
    unfold validF faultF at h
    simp only [decide_eq_true_eq] at h
    split at h
    · simp at h
    · cases h1 : procFirst ps with
      | some x =>
        rw [h1] at h
        unfold procFirst at h1
        rw [Option.map_eq_some_iff] at h1
        obtain ⟨q, hq, rfl⟩ := h1
        have := List.find?_some hq
        simp at this
        exact absurd h this
      | none =>
        rw [h1] at h
        cases h2 : evFirst ps with
        | none => rfl
        | some x =>
          rw [h2] at h
          unfold evFirst at h2
          rw [Option.map_eq_some_iff] at h2
          obtain ⟨q, hq, rfl⟩ := h2
          have := List.find?_some hq
          simp at this
          exact absurd h this
  have h0 := evFirst_get hef hp hi
  unfold evF at h0
  simp only [List.getElem?_eq_getElem hp, List.getElem?_eq_getElem hi] at h0
  split at h0
  · cases h0
  · split at h0
    · cases h0
    · split at h0
      · cases h0
      · by_cases hz : ∀ j, j < ps[p].evs[i].asg.length → asgF ps[p].vars.length ps[p].evs[i].asg j = 0
        · have := hz k hk
          unfold asgF at this
          simp only [List.getElem?_eq_getElem hk] at this
          split at this
          · cases this
          · rename_i hn
            simp only [inI, Bool.or_eq_true, Bool.not_eq_true', Bool.and_eq_false_iff, not_or, decide_eq_false_iff_not] at hn
            omega
        · exfalso
          apply hz
          intro j hj
          induction j using Nat.strongRecOn with
          | _ j ih =>
            by_cases hj0 : asgF ps[p].vars.length ps[p].evs[i].asg j = 0
            · exact hj0
            · rw [fstF_hit hj (fun m hm => ih m hm (by omega)) hj0] at h0
              exact absurd h0 hj0
theorem valuesAt_succ {ps : List Pr} {c : List Int} {k : Nat} (hk : k < c.length) (hp : k < ps.length) : valuesAt (ps.take (k + 1)) (c.take (k + 1)) = valuesAt (ps.take k) (c.take k) ++ [stateAt ps[k] c[k].toNat] := by
  unfold valuesAt
  rw [List.take_succ_eq_append_getElem hk, List.take_succ_eq_append_getElem hp, List.zip_append (by simp; omega), List.map_append]
  rfl
theorem givenF_zero {ps : List Pr} {c : List Int} (h : givenF ps [c] [] = 0) : validF ps = true ∧ c.length = ps.length ∧ inRangeF ps c = true ∧ closedF ps c = true := by
  unfold givenF at h
  split at h
  · cases h
  · rename_i h1
    have h1' : sizedF ps [c] = true := by simpa using h1
    obtain ⟨hv, hc⟩ := sizedF_inv h1'
    split at h
    · cases h
    · rename_i h2
      split at h
      · cases h
      · split at h
        · cases h
        · rename_i h3
          exact ⟨hv, hc c (by simp), by simpa using h2, by simpa using h3⟩
theorem variable_At (ps : List Pr) (hs : Sm ps) (c : List Int) (hcl : c.length ≤ 1000000) : PC Go.Proofs.Try.prog 37 [aTr ps, aInts c] (aAt ps c) := by
  have hfr := cut_Frontier ps hs c hcl
  unfold aFront at hfr
  unfold aAt
  refine PC.enter 39 [.tmp 4, .tmp 5] [2, 35] Go.Proofs.Try.func37 rfl rfl rfl rfl rfl (by simp) (AWp.of ?_); simp only [go_sem]
  repeat (first | ((with_reducible refine AWp.ofC ?_ ?_); (focus exact rfl); simp only [go_sem]) | ((with_reducible refine And.intro ?_ ?_); focus first | exact True.intro | omega | (intros; (with_reducible and_intros) <;> first | (with_reducible assumption) | omega; done)))
  by_cases h1 : givenF ps [c] [] = 0
  · rw [if_neg (by simp [h1])] at hfr
    rw [if_neg (by simp [h1])]
    obtain ⟨hv, hc, hr, _⟩ := givenF_zero h1
    have hao := asg_of_valid hv
    repeat ((with_reducible refine And.intro ?_ ?_); focus first | exact True.intro | omega | (intros; (with_reducible and_intros) <;> first | (with_reducible assumption) | omega; done) | (simp; done) | (simp; omega))
    refine (hfr).val.use ?_; simp only [go_sem]
    repeat (first | ((with_reducible refine AWp.ofC ?_ ?_); (focus exact rfl); simp only [go_sem]) | ((with_reducible refine And.intro ?_ ?_); focus first | exact True.intro | omega | (intros; (with_reducible and_intros) <;> first | (with_reducible assumption) | omega; done)))
    refine AWp.range' c.length [8] [2, 20, 21] (fun k vs L => ∃ v, vs = [v] ∧ AppSt 25 1 ((valuesAt (ps.take k) (c.take k)).map aInts) v L) (by omega) rfl rfl rfl ⟨anil, rfl, by simp only [List.take_zero, valuesAt, List.zip_nil_left, List.map_nil]; exact .nil⟩ ?_ ?_
    · rintro k vs L' hk - ⟨v, rfl, hA⟩
      have hkp : k < ps.length := by omega
      have hm := List.getElem_mem hkp
      obtain ⟨hr1, hr2⟩ := inRangeF_get hr hc hkp
      have hst := variable_state ps[k] (hs.vars _ hm) (hs.evs _ hm) (hs.asg _ hm) (hao k hkp) c[k].toNat (by omega)
      rw [Int.toNat_of_nonneg hr1] at hst
      rw [valuesAt_succ hk hkp, List.map_append]
      have hyl : ((valuesAt (ps.take k) (c.take k)).map aInts).length ≤ 1000000 := by simp [valuesAt]; omega
      generalize (valuesAt (ps.take k) (c.take k)).map aInts = ys at *
      have hfo := hA.fo
      rcases hA.inv with ⟨e1, rfl, rfl⟩ | ⟨b, cap, rfl, rfl⟩
      · simp only [go_sem]
        repeat ((with_reducible refine And.intro ?_ ?_); focus first | exact True.intro | omega | (intros; (with_reducible and_intros) <;> first | (with_reducible assumption) | omega; done) | (simp; done) | (simp; omega))
        refine AWp.of ?_; simp only [go_sem, getD_map hk, getD_map hkp]
        repeat ((with_reducible refine And.intro ?_ ?_); focus first | exact True.intro | omega | (intros; (with_reducible and_intros) <;> first | (with_reducible assumption) | omega; done) | (simp; done) | (simp; omega))
        refine AWp.of ?_; simp only [go_sem, getD_map hk, getD_map hkp]
        repeat ((with_reducible refine And.intro ?_ ?_); focus first | exact True.intro | omega | (intros; (with_reducible and_intros) <;> first | (with_reducible assumption) | omega; done) | (simp; done) | (simp; omega))
        refine (hst).val.use ?_; simp only [go_sem]
        repeat ((with_reducible refine And.intro ?_ ?_); focus first | exact True.intro | omega | (intros; (with_reducible and_intros) <;> first | (with_reducible assumption) | omega; done) | (simp; done) | (simp; omega))
        intro b' cap' _
        refine ⟨_, List.Sublist.refl _, _, rfl, ?_⟩
        rw [e1]
        exact .row _ _ _
      · simp only [go_sem]
        repeat ((with_reducible refine And.intro ?_ ?_); focus first | exact True.intro | omega | (intros; (with_reducible and_intros) <;> first | (with_reducible assumption) | omega; done) | (simp; done) | (simp; omega))
        refine AWp.of ?_; simp only [go_sem, getD_map hk, getD_map hkp]
        repeat ((with_reducible refine And.intro ?_ ?_); focus first | exact True.intro | omega | (intros; (with_reducible and_intros) <;> first | (with_reducible assumption) | omega; done) | (simp; done) | (simp; omega))
        refine AWp.of ?_; simp only [go_sem, getD_map hk, getD_map hkp]
        repeat ((with_reducible refine And.intro ?_ ?_); focus first | exact True.intro | omega | (intros; (with_reducible and_intros) <;> first | (with_reducible assumption) | omega; done) | (simp; done) | (simp; omega))
        refine (hst).val.use ?_; simp only [go_sem]
        repeat ((with_reducible refine And.intro ?_ ?_); focus first | exact True.intro | omega | (intros; (with_reducible and_intros) <;> first | (with_reducible assumption) | omega; done) | (simp; done) | (simp; omega))
        intro b' cap' _
        refine ⟨_, List.Sublist.refl _, _, rfl, ?_⟩
        have := AppSt.row (t := 25) (k := 1) b' (ys ++ [aInts (stateAt ps[k] c[k].toNat)]) cap'
        simpa [aInts] using this
    · rintro vs L' - ⟨v, rfl, hA⟩
      have e1 : valuesAt (ps.take c.length) (c.take c.length) = valuesAt ps c := by rw [List.take_length, hc, List.take_length]
      rw [e1] at hA
      simp only [go_sem]
      rcases hA.inv with ⟨e1, rfl, rfl⟩ | ⟨b, cap, rfl, rfl⟩
      · repeat (first | ((with_reducible refine AWp.ofC ?_ ?_); (focus exact rfl); simp only [go_sem]) | ((with_reducible refine And.intro ?_ ?_); focus first | exact True.intro | omega | (intros; (with_reducible and_intros) <;> first | (with_reducible assumption) | omega; done)))
        refine ret_view [] ?_; simp only [go_sem]
        have : valuesAt ps c = [] := by simpa using e1
        rw [this]
        exact .mkTup (Vws.cons (.nil 1) (Vws.refl _))
      · repeat (first | ((with_reducible refine AWp.ofC ?_ ?_); (focus exact rfl); simp only [go_sem]) | ((with_reducible refine And.intro ?_ ?_); focus first | exact True.intro | omega | (intros; (with_reducible and_intros) <;> first | (with_reducible assumption) | omega; done)))
        refine ret_view [true] ?_; simp only [go_sem]
        exact .mkTup (Vws.cons (Vw.ofLs (if_pos rfl) (by simp)) (Vws.refl _))
  · rw [if_pos h1] at hfr
    rw [if_pos h1]
    repeat ((with_reducible refine And.intro ?_ ?_); focus first | exact True.intro | omega | (intros; (with_reducible and_intros) <;> first | (with_reducible assumption) | omega; done) | (simp; done) | (simp; omega))
    refine (hfr).val.use ?_; simp only [go_sem]
    repeat (first | ((with_reducible refine AWp.ofC ?_ ?_); (focus exact rfl); simp only [go_sem, h1]) | ((with_reducible refine And.intro ?_ ?_); focus first | exact True.intro | omega | (intros; (with_reducible and_intros) <;> first | (with_reducible assumption) | omega; done)))
    refine ret_view [] ?_; simp only [go_sem]
    exact .mkTup (Vws.cons (.nil 1) (Vws.refl _))
end Go.AL
