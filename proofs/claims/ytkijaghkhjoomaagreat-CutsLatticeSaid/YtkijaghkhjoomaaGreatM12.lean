/- Texts of this claim's proof: WVar+1, WKn+1, WKn2+1, WSame+1. No condition. -/
import Derived.Test.YtkijaghkhjoomaaGreatM0
import Derived.Test.YtkijaghkhjoomaaGreatM1
import Derived.Test.YtkijaghkhjoomaaGreatM2
import Derived.Test.YtkijaghkhjoomaaGreatM3
import Derived.Test.YtkijaghkhjoomaaGreatM4
import Derived.Test.YtkijaghkhjoomaaGreatM5
import Derived.Test.YtkijaghkhjoomaaGreatM6
import Derived.Test.YtkijaghkhjoomaaGreatM7
import Derived.Test.YtkijaghkhjoomaaGreatM8
import Derived.Test.YtkijaghkhjoomaaGreatM9
import Derived.Test.YtkijaghkhjoomaaGreatM10
import Derived.Test.YtkijaghkhjoomaaGreatM11
section
namespace Go.AL
open Go Go.RowKit
set_option maxRecDepth 4000
theorem assignL_length (l : List (Int × Int)) (s : List Int) : (assignL s l).length = s.length := by
  induction l generalizing s with
  | nil => rfl
  | cons a l ih => simp only [assignL, List.foldl_cons] at *; rw [ih]; simp
theorem stateAt_length (x : Pr) (k : Nat) : (stateAt x k).length = x.vars.length := by
  unfold stateAt
  generalize x.evs.take k = l
  have key : ∀ s : List Int, (l.foldl (fun s e => assignL s e.asg) s).length = s.length := by
    induction l with
    | nil => intro s; rfl
    | cons e l ih => intro s; simp only [List.foldl_cons]; rw [ih, assignL_length]
  rw [key]; simp
theorem stateAt_succ (x : Pr) (k : Nat) (hk : k < x.evs.length) : stateAt x (k + 1) = assignL (stateAt x k) x.evs[k].asg := by
  unfold stateAt
  rw [List.take_succ_eq_append_getElem hk, List.foldl_append]; rfl
theorem assignL_succ (s : List Int) (l : List (Int × Int)) (k : Nat) (hk : k < l.length) : assignL s (l.take (k + 1)) = (assignL s (l.take k)).set l[k].1.toNat l[k].2 := by
  unfold assignL
  rw [List.take_succ_eq_append_getElem hk, List.foldl_append]; rfl
theorem stArgs_get (x : Pr) (k : Nat) (hk : k ≤ x.evs.length) : (stArgs x)[k]? = some [ai k, aInts (stateAt x k)] := by
  unfold stArgs; rw [List.getElem?_map, List.getElem?_range (by omega)]; rfl
theorem variable_states (x : Pr) : PC Go.Proofs.Tryz.prog 139 [aPr x] (.clo 157 [.rp 3 [aPr x] 0 0]) := by
  refine PC.enter 4 [.tmp 2] [1] Go.Proofs.Tryz.func139 rfl rfl rfl rfl rfl (by simp) (AWp.of ?_); simp only [go_sem]
  repeat (first | ((with_reducible refine AWp.ofC ?_ ?_); (focus exact rfl); simp only [go_sem]) | ((with_reducible refine an ?_ ?_); focus exact Au))
  refine ret_eq ?_; simp only [go_sem]
theorem variable_states1 (x : Pr) (h1 : x.vars.length ≤ 1000000) (h2 : x.evs.length ≤ 1000000) (h3 : ∀ e ∈ x.evs, e.asg.length ≤ 1000000) (ha : AsgOk x) : IterC Go.Proofs.Tryz.prog (.clo 157 [.rp 3 [aPr x] 0 0]) (stArgs x) := by
  intro y L I S hy h0 step
  refine MCalls.clo ?_
  simp only [List.cons_append, List.nil_append]
  have step' : ∀ (k : Nat) (hk : k ≤ x.evs.length) L', I k L' → MVal Go.Proofs.Tryz.prog y [ai k, aInts (stateAt x k)] L' fun r L'' => (r = ab true ∧ I (k + 1) L'') ∨ (r = ab false ∧ S L'') := fun k hk L' hI =>
    step k _ L' (stArgs_get x k hk) hI
  have hlen : (stArgs x).length = x.evs.length + 1 := by unfold stArgs; simp
  rw [hlen]
  refine MCalls.enter' 58 [] [5, 7, 9, 20] Go.Proofs.Tryz.func157 rfl rfl rfl rfl rfl (by simp) (AWp.of ?_); simp only [go_sem]
  refine AWp.cut [0, 1, 3] (fun vs L' => ∃ v Ln, vs = [y, .rp 3 [aPr x] 0 0, v] ∧ L' = Ln ++ L ∧ AppSt 3 1 ((x.vars.map (·.2)).map ai) v Ln) ?_ ?_
  · repeat ((with_reducible refine an ?_ ?_); focus exact As)
    refine AWp.of ?_; simp only [go_sem]
    refine AWp.range' x.vars.length [3] [0, 1, 11, 12] (fun k vs L' => ∃ v Ln, vs = [v] ∧ L' = Ln ++ L ∧ AppSt 3 1 (((x.vars.take k).map (·.2)).map ai) v Ln) (by omega) rfl rfl rfl ⟨anil, [], rfl, rfl, .nil⟩ ?_ ?_
    · rintro k vs L' hk - ⟨v, Ln, rfl, rfl, hA⟩
      have hsu : ((x.vars.take (k + 1)).map (·.2)).map ai = ((x.vars.take k).map (·.2)).map ai ++ [ai x.vars[k].2] := by
        rw [List.take_succ_eq_append_getElem hk, List.map_append, List.map_append]; rfl
      have htl : (x.vars.take k).length ≤ x.vars.length := by simp; omega
      rw [hsu]
      generalize hys : ((x.vars.take k).map (·.2)).map ai = ys at *
      have hyl : ys.length ≤ x.vars.length := by rw [← hys]; simpa using htl
      rcases hA.inv with ⟨e1, rfl, rfl⟩ | ⟨b, cap, rfl, rfl⟩
      · simp only [go_sem]
        repeat ((with_reducible refine an ?_ ?_); focus exact As)
        refine AWp.of ?_; simp only [go_sem, getD_map hk]
        repeat ((with_reducible refine an ?_ ?_); focus exact As)
        intros
        refine AWp.of ?_; simp only [go_sem]
        repeat ((with_reducible refine an ?_ ?_); focus exact As)
        intro b' cap' _ _
        refine ⟨_, List.Sublist.refl _, _, [(b', .row 3 1 [ai x.vars[k].2] cap')], rfl, rfl, ?_⟩
        rw [e1]
        exact .row _ _ _
      · simp only [go_sem]
        repeat ((with_reducible refine an ?_ ?_); focus exact As)
        refine AWp.of ?_; simp only [go_sem, getD_map hk]
        repeat ((with_reducible refine an ?_ ?_); focus exact As)
        intros
        refine AWp.of ?_; simp only [go_sem]
        repeat ((with_reducible refine an ?_ ?_); focus exact As)
        intro b' cap' _ _
        refine ⟨_, List.Sublist.refl _, _, [(b', .row 3 1 (ys ++ [ai x.vars[k].2]) cap')], rfl, rfl, ?_⟩
        have := AppSt.row (t := 3) (k := 1) b' (ys ++ [ai x.vars[k].2]) cap'
        simpa using this
    · rintro vs L' - ⟨v, Ln, rfl, rfl, hA⟩
      simp only [go_sem]
      rw [List.take_length] at hA
      exact ⟨_, List.Sublist.refl _, _, _, rfl, rfl, hA⟩
  · rintro vs L' - ⟨v, Ln, rfl, rfl, hA⟩
    have hst0 : x.vars.map (·.2) = stateAt x 0 := by simp [stateAt]
    rw [hst0] at hA
    have hfo := hA.fo
    -- one call of the round, with a copy of what the memory holds
    have give : ∀ (k : Nat) (Ln Li : AHeap) (_ : k ≤ x.evs.length), AppSt 3 1 ((stateAt x k).map ai) v Ln → I k Li →
        MVal Go.Proofs.Tryz.prog (.v (.func (.func 120) #[] #[])) [v] (Ln ++ Li) fun r L' => fo r = (True, r) ∧ ∀ K : AV → AHeap → Prop,
          (∀ L2, I (k + 1) L2 → K (ab true) (Ln ++ L2)) → (∀ L2, S L2 → K (ab false) (Ln ++ L2)) → MVal Go.Proofs.Tryz.prog y [ai k, r] L' K := fun k Ln Li hk hA hI => by
      have hc := (MCalls.viewed (Vws.cons (hA.vw Li) .nil) (ints_cloneO (stateAt x k) (by rw [stateAt_length]; omega)) (fun r L1 h => h.own (own_ints _))).val
      refine hc.mono ?_
      rintro r L' ⟨L1, rfl, hA1⟩
      refine ⟨hA1.fo, fun K h1 h2 => ?_⟩
      have hvw : Vw L1 r (aInts (stateAt x k)) := by have := hA1.vw []; rw [List.append_nil] at this; exact this
      refine MVal.pass (Lf := L1) (Li := Li) (Lr := Ln) (List.Perm.append_left _ List.perm_append_comm) (Vws.cons (.refl _) (Vws.cons hvw .nil)) (step' k hk Li hI) ?_
      rintro r' L2 (⟨rfl, hI2⟩ | ⟨rfl, hS⟩)
      · exact ⟨_, List.perm_append_comm, h1 _ hI2⟩
      · exact ⟨_, List.perm_append_comm, h2 _ hS⟩
    simp only [go_sem]
    repeat ((with_reducible refine an ?_ ?_); focus exact As)
    refine AWp.of ?_; simp only [go_sem, hfo]
    simp only [hy, true_and]
    refine (give 0 Ln L (by omega) hA h0).mono ?_
    rintro r L' ⟨hr, hK⟩
    simp only [go_sem, hr, hy]
    refine hK _ ?_ ?_
    · intro L2 hI
      simp only [go_sem]
      repeat ((with_reducible refine an ?_ ?_); focus exact As)
      refine AWp.of ?_; simp only [go_sem]
      repeat ((with_reducible refine an ?_ ?_); focus exact As)
      refine AWp.of ?_; simp only [go_sem]
      refine AWp.range' x.evs.length [] [0, 3, 29, 30] (fun k vs L' => ∃ Ln Li, L' = Ln ++ Li ∧ I (k + 1) Li ∧ AppSt 3 1 ((stateAt x k).map ai) v Ln) (by omega) rfl rfl rfl ⟨Ln, L2, rfl, hI, hA⟩ ?_ ?_
      · rintro k vs L' hk - ⟨Ln, Li, rfl, hI, hA⟩
        simp only [go_sem]
        repeat ((with_reducible refine an ?_ ?_); focus exact As)
        refine AWp.of ?_; simp only [go_sem, getD_map hk]
        have hem : x.evs[k] ∈ x.evs := List.getElem_mem hk
        have hal := h3 _ hem
        have hao := ha _ hem
        have hsu := stateAt_succ x k hk
        repeat ((with_reducible refine an ?_ ?_); focus exact As)
        intros
        refine AWp.of ?_; simp only [go_sem]
        refine AWp.range' x.evs[k].asg.length [] [0, 3, 6, 29, 30, 31, 37, 38] (fun j vs L' => ∃ Ln Li, L' = Ln ++ Li ∧ I (k + 1) Li ∧ AppSt 3 1 ((assignL (stateAt x k) (x.evs[k].asg.take j)).map ai) v Ln) (by omega) rfl rfl rfl ⟨Ln, Li, rfl, hI, hA⟩ ?_ ?_
        · rintro j vs L' hj - ⟨Ln, Li, rfl, hI, hA⟩
          obtain ⟨ha1, ha2⟩ := hao _ (List.getElem_mem hj)
          have hl2 : (assignL (stateAt x k) (x.evs[k].asg.take j)).length = x.vars.length := by rw [assignL_length, stateAt_length]
          have hs2 := assignL_succ (stateAt x k) x.evs[k].asg j hj
          rcases hA.inv with ⟨e1, rfl, rfl⟩ | ⟨b, cap, rfl, rfl⟩
          · have : (assignL (stateAt x k) (x.evs[k].asg.take j)).length = 0 := by simpa using congrArg List.length e1
            omega
          · generalize hS' : assignL (stateAt x k) (x.evs[k].asg.take j) = s' at *
            have hn : x.evs[k].asg[j].1.toNat < s'.length := by omega
            simp only [go_sem]
            repeat ((with_reducible refine an ?_ ?_); focus exact As)
            refine AWp.of ?_; simp only [go_sem, getD_map hj]
            repeat ((with_reducible refine an ?_ ?_); focus exact As)
            intros
            refine AWp.of ?_; simp only [go_sem, getD_map hn]
            repeat ((with_reducible refine an ?_ ?_); focus exact As)
            refine ⟨_, List.Sublist.refl _, [(b, .row 3 1 ((s'.map ai).set x.evs[k].asg[j].1.toNat (ai x.evs[k].asg[j].2)) cap)], Li, rfl, hI, ?_⟩
            rw [hs2, List.map_set]
            have := AppSt.row (t := 3) (k := 1) b ((s'.map ai).set x.evs[k].asg[j].1.toNat (ai x.evs[k].asg[j].2)) cap
            simpa using this
        · rintro vs L' - ⟨Ln, Li, rfl, hI, hA⟩
          rw [List.take_length, ← hsu] at hA
          simp only [go_sem]
          repeat ((with_reducible refine an ?_ ?_); focus exact As)
          refine AWp.of ?_; simp only [go_sem, hfo]
          simp only [hy, true_and]
          repeat ((with_reducible refine an ?_ ?_); focus exact As)
          refine (give (k + 1) Ln Li (by omega) hA hI).mono ?_
          rintro r L' ⟨hr, hK⟩
          simp only [go_sem, hr, hy]
          refine hK _ ?_ ?_
          · intro L2 hI
            simp only [go_sem]
            repeat (first | ((with_reducible refine AWp.ofC ?_ ?_); (focus exact rfl); simp only [go_sem]) | ((with_reducible refine an ?_ ?_); focus exact Au))
            exact ⟨_, List.Sublist.refl _, Ln, L2, rfl, hI, hA⟩
          · intro L2 hS
            simp only [go_sem]
            repeat (first | ((with_reducible refine AWp.ofC ?_ ?_); (focus exact rfl); simp only [go_sem]) | ((with_reducible refine an ?_ ?_); focus exact Au))
            refine ret_sub L2 (List.sublist_append_right _ _) ?_
            simp only [go_sem]
            exact .inr hS
      · rintro vs L' - ⟨Ln, Li, rfl, hI, hA⟩
        simp only [go_sem]
        refine ret_sub Li (List.sublist_append_right _ _) ?_
        simp only [go_sem]
        exact .inl hI
    · intro L2 hS
      simp only [go_sem]
      repeat (first | ((with_reducible refine AWp.ofC ?_ ?_); (focus exact rfl); simp only [go_sem]) | ((with_reducible refine an ?_ ?_); focus exact Au))
      refine ret_sub L2 (List.sublist_append_right _ _) ?_
      simp only [go_sem]
      exact .inr hS
theorem variable_state (x : Pr) (h1 : x.vars.length ≤ 1000000) (h2 : x.evs.length ≤ 1000000) (h3 : ∀ e ∈ x.evs, e.asg.length ≤ 1000000) (ha : AsgOk x) (k : Nat) (hk : k ≤ x.evs.length) :
    PC Go.Proofs.Tryz.prog 109 [aPr x, ai k] (aInts (stateAt x k)) := by
  refine PC.enter 15 [.cell 4 43] [2, 3] Go.Proofs.Tryz.func109 rfl rfl rfl rfl rfl (by simp) (AWp.of ?_); simp only [go_sem]
  intro b4
  repeat ((with_reducible refine an ?_ ?_); focus exact As)
  refine AWp.of ?_; simp only [go_sem]
  repeat ((with_reducible refine an ?_ ?_); focus exact As)
  refine (variable_states x).val.use ?_; simp only [go_sem]
  refine AWp.block (AWp.rangeFunc rfl [3, 4] (stArgs x) (fun j L => L = [(b4, .row 43 1 [anil] 1)] ∧ j ≤ k) (fun e L => e = .ret ∧ L = [(b4, .row 43 1 [aInts (stateAt x k)] 1)])
    rfl (variable_states1 x h1 h2 h3 ha) (fun y hy => by obtain ⟨j, hj⟩ := List.getElem?_of_mem hy; unfold stArgs at hj; rw [List.getElem?_map, Option.map_eq_some_iff] at hj; obtain ⟨_, _, rfl⟩ := hj; rfl) ⟨rfl, by omega⟩ ?_ ?_ ?_)
  · rintro j y L' l hy ⟨rfl, hj⟩
    have hjl : j ≤ x.evs.length := by omega
    rw [stArgs_get x j hjl] at hy
    cases hy
    simp only [go_sem]
    repeat (first | ((with_reducible refine AWp.ofC ?_ ?_); (focus exact rfl); simp only [go_sem]) | ((with_reducible refine an ?_ ?_); focus exact Au))
    refine ⟨fun h => ?_, fun h => ?_⟩
    · have : j = k := by omega
      subst this
      repeat (first | ((with_reducible refine AWp.ofC ?_ ?_); (focus exact rfl); simp only [go_sem]) | ((with_reducible refine an ?_ ?_); focus exact Au))
      exact ⟨_, List.Sublist.refl _, rfl⟩
    · exact ⟨_, List.Sublist.refl _, rfl, by omega⟩
  · rintro L' ⟨rfl, hj⟩
    have : (stArgs x).length = x.evs.length + 1 := by unfold stArgs; simp
    omega
  · rintro e L' ⟨he, rfl⟩
    subst he
    show retK _ _ _ _ _
    refine ret_eq ?_
    simp only [go_sem]
theorem asg_of_valid {ps : List Pr} (h : validF ps = true) : ∀ (p : Nat) (hp : p < ps.length), AsgOk ps[p] := by
  intro p hp e he a haa
  obtain ⟨i, hi, rfl⟩ := List.getElem_of_mem he
  obtain ⟨k, hk, rfl⟩ := List.getElem_of_mem haa
  have hef : evFirst ps = none := by
    unfold validF faultF at h
    simp only [decide_eq_true_eq] at h
    split at h
    · simp at h
    · cases h1 : procFirst ps with
      | some x =>
        rw [h1] at h
        unfold procFirst at h1
        rw [Option.map_eq_some_iff] at h1
        obtain ⟨q, hq, rfl⟩ := h1
        have := List.find?_some hq
        simp at this
        exact absurd h this
      | none =>
        rw [h1] at h
        cases h2 : evFirst ps with
        | none => rfl
        | some x =>
          rw [h2] at h
          unfold evFirst at h2
          rw [Option.map_eq_some_iff] at h2
          obtain ⟨q, hq, rfl⟩ := h2
          have := List.find?_some hq
          simp at this
          exact absurd h this
  have h0 := evFirst_get hef hp hi
  unfold evF at h0
  simp only [List.getElem?_eq_getElem hp, List.getElem?_eq_getElem hi] at h0
  split at h0
  · cases h0
  · split at h0
    · cases h0
    · split at h0
      · cases h0
      · by_cases hz : ∀ j, j < ps[p].evs[i].asg.length → asgF ps[p].vars.length ps[p].evs[i].asg j = 0
        · have := hz k hk
          unfold asgF at this
          simp only [List.getElem?_eq_getElem hk] at this
          split at this
          · cases this
          · rename_i hn
            simp only [inI, Bool.or_eq_true, Bool.not_eq_true', Bool.and_eq_false_iff, not_or, decide_eq_false_iff_not] at hn
            omega
        · exfalso
          apply hz
          intro j hj
          induction j using Nat.strongRecOn with
          | _ j ih =>
            by_cases hj0 : asgF ps[p].vars.length ps[p].evs[i].asg j = 0
            · exact hj0
            · rw [fstF_hit hj (fun m hm => ih m hm (by omega)) hj0] at h0
              exact absurd h0 hj0
theorem valuesAt_succ {ps : List Pr} {c : List Int} {k : Nat} (hk : k < c.length) (hp : k < ps.length) : valuesAt (ps.take (k + 1)) (c.take (k + 1)) = valuesAt (ps.take k) (c.take k) ++ [stateAt ps[k] c[k].toNat] := by
  unfold valuesAt
  rw [List.take_succ_eq_append_getElem hk, List.take_succ_eq_append_getElem hp, List.zip_append (by simp; omega), List.map_append]
  rfl
theorem givenF_zero {ps : List Pr} {c : List Int} (h : givenF ps [c] [] = 0) : validF ps = true ∧ c.length = ps.length ∧ inRangeF ps c = true ∧ closedF ps c = true := by
  unfold givenF at h
  split at h
  · cases h
  · rename_i h1
    have h1' : sizedF ps [c] = true := by simpa using h1
    obtain ⟨hv, hc⟩ := sizedF_inv h1'
    split at h
    · cases h
    · rename_i h2
      split at h
      · cases h
      · split at h
        · cases h
        · rename_i h3
          exact ⟨hv, hc c (by simp), by simpa using h2, by simpa using h3⟩
theorem variable_At (ps : List Pr) (hs : Sm ps) (c : List Int) (hcl : c.length ≤ 1000000) : PC Go.Proofs.Tryz.prog 80 [aTr ps, aInts c] (aAt ps c) := by
  have hfr := cut_Frontier ps hs c hcl
  unfold aFront at hfr
  unfold aAt
  refine PC.enter 39 [.tmp 4, .tmp 5] [2, 35] Go.Proofs.Tryz.func80 rfl rfl rfl rfl rfl (by simp) (AWp.of ?_); simp only [go_sem]
  repeat (first | ((with_reducible refine AWp.ofC ?_ ?_); (focus exact rfl); simp only [go_sem]) | ((with_reducible refine an ?_ ?_); focus exact Au))
  by_cases h1 : givenF ps [c] [] = 0
  · rw [if_neg (by simp [h1])] at hfr
    rw [if_neg (by simp [h1])]
    obtain ⟨hv, hc, hr, _⟩ := givenF_zero h1
    have hao := asg_of_valid hv
    repeat ((with_reducible refine an ?_ ?_); focus exact As)
    refine (hfr).val.use ?_; simp only [go_sem]
    repeat (first | ((with_reducible refine AWp.ofC ?_ ?_); (focus exact rfl); simp only [go_sem]) | ((with_reducible refine an ?_ ?_); focus exact Au))
    refine AWp.range' c.length [8] [2, 20, 21] (fun k vs L => ∃ v, vs = [v] ∧ AppSt 43 1 ((valuesAt (ps.take k) (c.take k)).map aInts) v L) (by omega) rfl rfl rfl ⟨anil, rfl, by simp only [List.take_zero, valuesAt, List.zip_nil_left, List.map_nil]; exact .nil⟩ ?_ ?_
    · rintro k vs L' hk - ⟨v, rfl, hA⟩
      have hkp : k < ps.length := by omega
      have hm := List.getElem_mem hkp
      obtain ⟨hr1, hr2⟩ := inRangeF_get hr hc hkp
      have hst := variable_state ps[k] (hs.vars _ hm) (hs.evs _ hm) (hs.asg _ hm) (hao k hkp) c[k].toNat (by omega)
      rw [Int.toNat_of_nonneg hr1] at hst
      rw [valuesAt_succ hk hkp, List.map_append]
      have hyl : ((valuesAt (ps.take k) (c.take k)).map aInts).length ≤ 1000000 := by simp [valuesAt]; omega
      generalize (valuesAt (ps.take k) (c.take k)).map aInts = ys at *
      have hfo := hA.fo
      rcases hA.inv with ⟨e1, rfl, rfl⟩ | ⟨b, cap, rfl, rfl⟩
      · simp only [go_sem]
        repeat ((with_reducible refine an ?_ ?_); focus exact As)
        refine AWp.of ?_; simp only [go_sem, getD_map hk]
        repeat ((with_reducible refine an ?_ ?_); focus exact As)
        refine AWp.of ?_; simp only [go_sem, getD_map hkp]
        repeat ((with_reducible refine an ?_ ?_); focus exact As)
        refine (hst).val.use ?_; simp only [go_sem]
        repeat ((with_reducible refine an ?_ ?_); focus exact As)
        intro b' cap' _
        refine ⟨_, List.Sublist.refl _, _, rfl, ?_⟩
        rw [e1]
        exact .row _ _ _
      · simp only [go_sem]
        repeat ((with_reducible refine an ?_ ?_); focus exact As)
        refine AWp.of ?_; simp only [go_sem, getD_map hk]
        repeat ((with_reducible refine an ?_ ?_); focus exact As)
        refine AWp.of ?_; simp only [go_sem, getD_map hkp]
        repeat ((with_reducible refine an ?_ ?_); focus exact As)
        refine (hst).val.use ?_; simp only [go_sem]
        repeat ((with_reducible refine an ?_ ?_); focus exact As)
        intro b' cap' _
        refine ⟨_, List.Sublist.refl _, _, rfl, ?_⟩
        have := AppSt.row (t := 43) (k := 1) b' (ys ++ [aInts (stateAt ps[k] c[k].toNat)]) cap'
        simpa [aInts] using this
    · rintro vs L' - ⟨v, rfl, hA⟩
      have e1 : valuesAt (ps.take c.length) (c.take c.length) = valuesAt ps c := by rw [List.take_length, hc, List.take_length]
      rw [e1] at hA
      simp only [go_sem]
      rcases hA.inv with ⟨e1, rfl, rfl⟩ | ⟨b, cap, rfl, rfl⟩
      · repeat (first | ((with_reducible refine AWp.ofC ?_ ?_); (focus exact rfl); simp only [go_sem]) | ((with_reducible refine an ?_ ?_); focus exact Au))
        refine ret_view [] ?_; simp only [go_sem]
        have : valuesAt ps c = [] := by simpa using e1
        rw [this]
        exact .mkTup (Vws.cons (.nil 1) (Vws.refl _))
      · repeat (first | ((with_reducible refine AWp.ofC ?_ ?_); (focus exact rfl); simp only [go_sem]) | ((with_reducible refine an ?_ ?_); focus exact Au))
        refine ret_view [true] ?_; simp only [go_sem]
        exact .mkTup (Vws.cons (Vw.ofLs (if_pos rfl) (by simp)) (Vws.refl _))
  · rw [if_pos h1] at hfr
    rw [if_pos h1]
    repeat ((with_reducible refine an ?_ ?_); focus exact As)
    refine (hfr).val.use ?_; simp only [go_sem]
    repeat (first | ((with_reducible refine AWp.ofC ?_ ?_); (focus exact rfl); simp only [go_sem, h1]) | ((with_reducible refine an ?_ ?_); focus exact Au))
    refine ret_view [] ?_; simp only [go_sem]
    exact .mkTup (Vws.cons (.nil 1) (Vws.refl _))
end Go.AL
end
section
namespace Go.AL
open Go Go.RowKit
set_option maxRecDepth 4000
theorem prune_counts1 (n : Int) : PC Go.Proofs.Tryz.prog 111 [ai n] (ab (!inB n)) := by
  refine PC.enter 9 [.tmp 2] [] Go.Proofs.Tryz.func111 rfl rfl rfl rfl rfl (by simp) (AWp.of ?_); simp only [go_sem]
  repeat (first | ((with_reducible refine AWp.ofC ?_ ?_); (focus exact rfl); simp only [go_sem]) | ((with_reducible refine an ?_ ?_); focus exact Au))
  refine ret_eq ?_; simp only [go_sem]
  congr 2; unfold inB
  by_cases h : n < 0
  · simp [h, Int.not_le.2 h]
  · simp [h, Int.not_lt.1 h]
    by_cases h2 : 64 < n
    · simp [h2]
    · simp [h2]; omega
theorem prune_counts (l : List Int) (hl : l.length ≤ 1000000) : PC Go.Proofs.Tryz.prog 82 [aInts l] (ab (l.all inB)) := by
  refine PC.enter 6 [.tmp 2] [] Go.Proofs.Tryz.func82 rfl rfl rfl rfl rfl (by simp) (AWp.of ?_); simp only [go_sem]
  repeat (first | ((with_reducible refine AWp.ofC ?_ ?_); (focus exact rfl); simp only [go_sem]) | ((with_reducible refine an ?_ ?_); focus exact Au))
  repeat ((with_reducible refine an ?_ ?_); focus exact As)
  refine (ints_containsFunc l hl _ rfl (fun n => !inB n) fun n _ => (prune_counts1 n).val).val.use ?_; simp only [go_sem]
  repeat (first | ((with_reducible refine AWp.ofC ?_ ?_); (focus exact rfl); simp only [go_sem]) | ((with_reducible refine an ?_ ?_); focus exact Au))
  refine ret_eq ?_; simp only [go_sem]
  congr 2; simp [List.all_eq_not_any_not]
theorem prune_knowledge1 (row : List Int) (l : List (List Int)) (hr : row.length ≤ 1000000) : PC Go.Proofs.Tryz.prog 137 [aInts row, .rp 1 [aRows l] 0 0] (ab (!decide (row.length = l.length) || !row.all inB)) := by
  refine PC.enter 14 [.tmp 3] [] Go.Proofs.Tryz.func137 rfl rfl rfl rfl rfl (by simp) (AWp.of ?_); simp only [go_sem]
  repeat (first | ((with_reducible refine AWp.ofC ?_ ?_); (focus exact rfl); simp only [go_sem]) | ((with_reducible refine an ?_ ?_); focus exact Au))
  repeat ((with_reducible refine an ?_ ?_); focus exact As)
  refine GCall.use (ab (row.all inB)) (fun _ => ⟨At, (prune_counts row hr).val.use ⟨rfl, rfl⟩⟩) ?_; simp only [go_sem]
  repeat (first | ((with_reducible refine AWp.ofC ?_ ?_); (focus exact rfl); simp only [go_sem]) | ((with_reducible refine an ?_ ?_); focus exact Au))
  refine ret_eq ?_; simp only [go_sem]
  congr 2
  by_cases h : row.length = l.length <;> simp [h, Int.natCast_inj]
theorem prune_knowledge (l : List (List Int)) (hl : l.length ≤ 1000000) (hr : ∀ row ∈ l, row.length ≤ 1000000) : PC Go.Proofs.Tryz.prog 103 [aRows l] (ab (isKn l)) := by
  refine PC.enter 15 [.tmp 2] [1] Go.Proofs.Tryz.func103 rfl rfl rfl rfl rfl (by simp) (AWp.of ?_); simp only [go_sem]
  repeat (first | ((with_reducible refine AWp.ofC ?_ ?_); (focus exact rfl); simp only [go_sem]) | ((with_reducible refine an ?_ ?_); focus exact Au))
  refine ⟨fun ht => ?_, fun h1 h2 => ?_⟩
  · repeat (first | ((with_reducible refine AWp.ofC ?_ ?_); (focus exact rfl); simp only [go_sem]) | ((with_reducible refine an ?_ ?_); focus exact Au))
    refine ret_eq ?_; simp only [go_sem]
    congr 2; unfold isKn
    rcases ht with h | h
    · simp [show ¬ 1 ≤ l.length by omega]
    · simp [show ¬ l.length ≤ 8 by omega]
  · repeat (first | ((with_reducible refine AWp.ofC ?_ ?_); (focus exact rfl); simp only [go_sem]) | ((with_reducible refine an ?_ ?_); focus exact Au))
    repeat ((with_reducible refine an ?_ ?_); focus exact As)
    refine (rows_containsFunc l hl (.clo 137 [.rp 1 [aRows l] 0 0]) rfl (fun row => !decide (row.length = l.length) || !row.all inB) fun row hrow => (prune_knowledge1 row l (hr row hrow)).clo).val.use ?_; simp only [go_sem]
    repeat (first | ((with_reducible refine AWp.ofC ?_ ?_); (focus exact rfl); simp only [go_sem]) | ((with_reducible refine an ?_ ?_); focus exact Au))
    refine ret_eq ?_; simp only [go_sem]
    congr 2; unfold isKn
    simp [show 1 ≤ l.length by omega, show l.length ≤ 8 by omega, List.all_eq_not_any_not, Bool.not_and]
theorem prune_least (a b : Int) : PC Go.Proofs.Tryz.prog 105 [ai a, ai b] (ai (min a b)) := by
  refine PC.enter 8 [.tmp 4] [] Go.Proofs.Tryz.func105 rfl rfl rfl rfl rfl (by simp) (AWp.of ?_); simp only [go_sem]
  repeat (first | ((with_reducible refine AWp.ofC ?_ ?_); (focus exact rfl); simp only [go_sem]) | ((with_reducible refine an ?_ ?_); focus exact Au))
  refine ret_eq ?_; simp only [go_sem]
  congr 1; congr 1; omega
theorem prune_greatest (a b : Int) : PC Go.Proofs.Tryz.prog 138 [ai a, ai b] (ai (max a b)) := by
  refine PC.enter 8 [.tmp 4] [] Go.Proofs.Tryz.func138 rfl rfl rfl rfl rfl (by simp) (AWp.of ?_); simp only [go_sem]
  repeat (first | ((with_reducible refine AWp.ofC ?_ ?_); (focus exact rfl); simp only [go_sem]) | ((with_reducible refine an ?_ ?_); focus exact Au))
  refine ret_eq ?_; simp only [go_sem]
  congr 1; congr 1; omega
theorem upd_get {Z out : List Int} {j : Nat} (h : Z.length = out.length) (hj : j < out.length) : (Z.take j ++ out.drop j)[j]? = some out[j] := by
  rw [List.getElem?_append_right (by simp; omega), List.length_take, List.getElem?_drop, show j + (j - min j Z.length) = j by omega, List.getElem?_eq_getElem hj]
theorem upd_set {Z out : List Int} {j : Nat} (h : Z.length = out.length) (hj : j < out.length) : (Z.take j ++ out.drop j).set j (Z[j]'(by omega)) = Z.take (j + 1) ++ out.drop (j + 1) := by
  apply List.ext_getElem?
  intro i
  have hz : j < Z.length := by omega
  rw [List.getElem?_set]
  simp only [List.getElem?_append, List.length_take, List.getElem?_take, List.getElem?_drop, List.length_append, List.length_drop]
  by_cases hij : j = i
  · subst hij
    rw [if_pos rfl, if_pos (by omega), if_pos (by omega), if_pos (by omega), List.getElem?_eq_getElem hz]
  · rw [if_neg hij]
    by_cases hlt : i < j
    · rw [if_pos (by omega), if_pos hlt, if_pos (by omega), if_pos (by omega)]
    · rw [if_neg (by omega), if_neg (by omega)]
      congr 1; omega
theorem foldF_take (f : Int → Int → Int) (l : List (List Int)) (k : Nat) (hk : k < l.length) (a : List Int) : (l.take (k + 1)).foldl (List.zipWith f) a = List.zipWith f ((l.take k).foldl (List.zipWith f) a) l[k] := by
  rw [List.take_succ_eq_append_getElem hk, List.foldl_append]; rfl
theorem foldl_len (f : Int → Int → Int) (n : Nat) (l : List (List Int)) (h : ∀ r ∈ l, r.length = n) (a : List Int) (ha : a.length = n) : (l.foldl (List.zipWith f) a).length = n := by
  induction l generalizing a with
  | nil => exact ha
  | cons r l ih => exact ih (fun r hr => h r (List.mem_cons_of_mem _ hr)) _ (by rw [List.length_zipWith, ha, h r (by simp)]; simp)
theorem prune_fold (r0 : List Int) (rs : List (List Int)) (n : Nat) (hn : 0 < n) (hn2 : n ≤ 1000000) (hl : rs.length ≤ 1000000) (h0 : r0.length = n) (hr : ∀ r ∈ rs, r.length = n) (f : Int → Int → Int) (g : AV) (hgf : fo g = (True, g))
    (hg : ∀ a b, PV Go.Proofs.Tryz.prog g [ai a, ai b] (ai (f a b))) : PC Go.Proofs.Tryz.prog 104 [aRows (r0 :: rs), g] (aInts (foldF f (r0 :: rs))) := by
  refine PC.enter 41 [.tmp 4] [] Go.Proofs.Tryz.func104 rfl rfl rfl rfl rfl (by simp) (AWp.of ?_); simp only [go_sem]
  repeat (first | ((with_reducible refine AWp.ofC ?_ ?_); (focus exact rfl); simp only [go_sem]) | ((with_reducible refine an ?_ ?_); focus exact Au))
  refine (ints_cloneO r0 (by omega)).val.mono ?_
  rintro r L hA
  rcases hA.inv with ⟨e1, rfl, rfl⟩ | ⟨b, cap, rfl, rfl⟩
  · have : r0.length = 0 := by simpa using congrArg List.length e1
    omega
  · have hz : ∀ k, (((rs.take k).foldl (List.zipWith f) r0)).length = n := fun k => foldl_len f n _ (fun r hr' => hr r (List.mem_of_mem_take hr')) r0 h0
    simp only [go_sem, h0]
    repeat ((with_reducible refine an ?_ ?_); focus exact As)
    refine AWp.of ?_; simp only [go_sem]
    repeat ((with_reducible refine an ?_ ?_); focus exact As)
    refine AWp.range' rs.length [] [1, 5, 15, 16] (fun k vs L => L = [(b, .row 3 1 (((rs.take k).foldl (List.zipWith f) r0).map ai) cap)]) (by omega) rfl rfl rfl rfl ?_ ?_
    · rintro k vs L' hk - rfl
      have hrk := hr _ (List.getElem_mem hk)
      have hck := hz k
      have hsu := foldF_take f rs k hk r0
      generalize (rs.take k).foldl (List.zipWith f) r0 = out at *
      have hzl : (List.zipWith f out rs[k]).length = out.length := by rw [List.length_zipWith]; omega
      simp only [go_sem]
      repeat ((with_reducible refine an ?_ ?_); focus exact As)
      refine AWp.of ?_; simp only [go_sem, getD_map hk]
      repeat (first | ((with_reducible refine AWp.ofC ?_ ?_); (focus exact rfl); simp only [go_sem, hrk]) | ((with_reducible refine an ?_ ?_); focus exact Au))
      refine AWp.range' n [] [1, 5, 15, 16, 17, 21, 22] (fun j vs L => L = [(b, .row 3 1 (((List.zipWith f out rs[k]).take j ++ out.drop j).map ai) cap)]) (by omega) rfl rfl rfl (by simp) ?_ ?_
      · rintro j vs L' hj - rfl
        have hjr : j < rs[k].length := by omega
        have hjo : j < out.length := by omega
        have hgd : (List.map ai ((List.zipWith f out rs[k]).take j ++ out.drop j)).getD j .any = ai out[j] := by
          rw [List.getD_eq_getElem?_getD, List.getElem?_map, upd_get hzl hjo]; rfl
        have hus := upd_set hzl hjo
        have hzj : (List.zipWith f out rs[k])[j]'(by omega) = f out[j] rs[k][j] := List.getElem_zipWith
        rw [hzj] at hus
        have hul : ((List.zipWith f out rs[k]).take j ++ out.drop j).length = n := by rw [List.length_append, List.length_take, List.length_drop]; omega
        rw [← hus]
        generalize (List.zipWith f out rs[k]).take j ++ out.drop j = cur at *
        simp only [go_sem]
        repeat ((with_reducible refine an ?_ ?_); focus exact As)
        refine AWp.of ?_; simp only [go_sem, getD_map hjr]
        repeat (first | ((with_reducible refine AWp.ofC ?_ ?_); (focus exact rfl); simp only [go_sem, hgf, hgd]) | ((with_reducible refine an ?_ ?_); focus exact Au))
        repeat ((with_reducible refine an ?_ ?_); focus exact As)
        refine (hg _ _).use ?_; simp only [go_sem, hgd]
        repeat ((with_reducible refine an ?_ ?_); focus exact As)
        refine ⟨_, List.Sublist.refl _, ?_⟩
        rw [List.map_set]
      · rintro vs L' - rfl
        simp only [go_sem]
        refine ⟨_, List.Sublist.refl _, ?_⟩
        rw [hsu, List.take_of_length_le (by omega), List.drop_of_length_le (by omega), List.append_nil]
    · rintro vs L' - rfl
      simp only [go_sem]
      repeat (first | ((with_reducible refine AWp.ofC ?_ ?_); (focus exact rfl); simp only [go_sem]) | ((with_reducible refine an ?_ ?_); focus exact Au))
      refine ret_view [true] ?_; simp only [go_sem]
      have hzz := hz rs.length
      rw [List.take_length] at hzz
      exact Vw.ofLs (if_pos rfl) (by rw [List.length_map]; exact hzz.symm)
theorem isKn_inv {l : List (List Int)} (h : isKn l = true) : 1 ≤ l.length ∧ l.length ≤ 8 ∧ ∀ row ∈ l, row.length = l.length ∧ ∀ n ∈ row, 0 ≤ n ∧ n ≤ 64 := by
  unfold isKn at h
  simp only [Bool.and_eq_true, decide_eq_true_eq, List.all_eq_true, inB] at h
  exact ⟨h.1.1, h.1.2, fun row hr => ⟨(h.2 row hr).1, fun n hn => (h.2 row hr).2 n hn⟩⟩
theorem fold_sq (l : List (List Int)) (h1 : 1 ≤ l.length) (h2 : l.length ≤ 1000000) (hr : ∀ row ∈ l, row.length = l.length) (f : Int → Int → Int) (g : AV) (hgf : fo g = (True, g)) (hg : ∀ a b, PV Go.Proofs.Tryz.prog g [ai a, ai b] (ai (f a b))) :
    PC Go.Proofs.Tryz.prog 104 [aRows l, g] (aInts (foldF f l)) := by
  cases l with
  | nil => simp at h1
  | cons r0 rs => exact prune_fold r0 rs (r0 :: rs).length (by simp) h2 (by simp at h2; omega) (hr r0 (by simp)) (fun r hr' => hr r (List.mem_cons_of_mem _ hr')) f g hgf hg
theorem prune_Stable (l : List (List Int)) (hl : l.length ≤ 1000000) (hr : ∀ row ∈ l, row.length ≤ 1000000) : PC Go.Proofs.Tryz.prog 75 [aRows l] (aStable l) := by
  refine PC.enter 9 [.tmp 2, .tmp 3] [] Go.Proofs.Tryz.func75 rfl rfl rfl rfl rfl (by simp) (AWp.of ?_); simp only [go_sem]
  repeat (first | ((with_reducible refine AWp.ofC ?_ ?_); (focus exact rfl); simp only [go_sem]) | ((with_reducible refine an ?_ ?_); focus exact Au))
  repeat ((with_reducible refine an ?_ ?_); focus exact As)
  refine (prune_knowledge l hl hr).val.use ?_; simp only [go_sem]
  repeat (first | ((with_reducible refine AWp.ofC ?_ ?_); (focus exact rfl); simp only [go_sem]) | ((with_reducible refine an ?_ ?_); focus exact Au))
  refine ⟨fun h1 => ?_, fun h1 => ?_⟩
  · repeat (first | ((with_reducible refine AWp.ofC ?_ ?_); (focus exact rfl); simp only [go_sem]) | ((with_reducible refine an ?_ ?_); focus exact Au))
    have e : aStable l = .tup [.sl 1 [], ai 1] := by unfold aStable; rw [h1]; rfl
    rw [e]
    refine ret_view [] ?_; simp only [go_sem]
    exact .mkTup (Vws.cons (.nil 1) (Vws.refl _))
  · have e : aStable l = .tup [aInts (foldF min l), ai 0] := by unfold aStable; rw [h1]; rfl
    obtain ⟨k1, k2, k3⟩ := isKn_inv h1
    repeat (first | ((with_reducible refine AWp.ofC ?_ ?_); (focus exact rfl); simp only [go_sem]) | ((with_reducible refine an ?_ ?_); focus exact Au))
    repeat ((with_reducible refine an ?_ ?_); focus exact As)
    refine (fold_sq l k1 hl (fun r hr => (k3 r hr).1) min _ rfl (fun a b => (prune_least a b).val)).val.use ?_; simp only [go_sem]
    repeat (first | ((with_reducible refine AWp.ofC ?_ ?_); (focus exact rfl); simp only [go_sem]) | ((with_reducible refine an ?_ ?_); focus exact Au))
    rw [e]
    refine ret_eq ?_; simp only [go_sem]
end Go.AL
end
section
namespace Go.AL
open Go Go.RowKit
set_option maxRecDepth 4000
theorem foldl_mem {f : Int → Int → Int} {p : Int → Prop} (hf : ∀ a b, p a → p b → p (f a b)) : ∀ (rs : List (List Int)) (r0 : List Int), (∀ n ∈ r0, p n) → (∀ r ∈ rs, ∀ n ∈ r, p n) → ∀ n ∈ rs.foldl (List.zipWith f) r0, p n
  | [], r0, h0, _ => h0
  | r :: rs, r0, h0, h => foldl_mem hf rs _ (fun n hn => by
      obtain ⟨i, hi, rfl⟩ := List.getElem_of_mem hn
      rw [List.getElem_zipWith]
      exact hf _ _ (h0 _ (List.getElem_mem _)) (h r (by simp) _ (List.getElem_mem _))) (fun r' hr' => h r' (List.mem_cons_of_mem _ hr'))
theorem foldF_mem {f : Int → Int → Int} {p : Int → Prop} (hf : ∀ a b, p a → p b → p (f a b)) {l : List (List Int)} (h : ∀ r ∈ l, ∀ n ∈ r, p n) : ∀ n ∈ foldF f l, p n := by
  cases l with
  | nil => intro n hn; simp [foldF] at hn
  | cons r0 rs => exact foldl_mem hf rs r0 (h r0 (by simp)) (fun r hr => h r (List.mem_cons_of_mem _ hr))
theorem foldF_len {f : Int → Int → Int} {l : List (List Int)} {n : Nat} (h1 : 1 ≤ l.length) (h : ∀ r ∈ l, r.length = n) : (foldF f l).length = n := by
  cases l with
  | nil => simp at h1
  | cons r0 rs => exact foldl_len f n rs (fun r hr => h r (List.mem_cons_of_mem _ hr)) r0 (h r0 (by simp))
theorem sum_take (Z : List Int) (j : Nat) (hj : j < Z.length) : (Z.take (j + 1)).sum = (Z.take j).sum + Z[j] := by
  rw [List.take_succ_eq_append_getElem hj, List.sum_append]; simp
theorem sum_bound {Z : List Int} (h : ∀ z ∈ Z, -1000000 ≤ z ∧ z ≤ 1000000) : -((Z.length : Int) * 1000000) ≤ Z.sum ∧ Z.sum ≤ (Z.length : Int) * 1000000 := by
  induction Z with
  | nil => simp
  | cons z Z ih =>
    have h1 := h z (by simp)
    have h2 := ih fun z hz => h z (List.mem_cons_of_mem _ hz)
    simp only [List.sum_cons, List.length_cons]
    omega
theorem kept_bound {l : List (List Int)} (hB : ∀ r ∈ l, ∀ n ∈ r, 0 ≤ n ∧ n ≤ 1000000) : ∀ z ∈ kZ l, -1000000 ≤ z ∧ z ≤ 1000000 := by
  intro z hz
  unfold kZ at hz
  obtain ⟨i, hi, rfl⟩ := List.getElem_of_mem hz
  rw [List.getElem_zipWith]
  have h1 := foldF_mem (f := max) (p := fun n => 0 ≤ n ∧ n ≤ 1000000) (fun a b ha hb => by omega) hB _ (List.getElem_mem (l := foldF max l) (by simp at hi; omega : i < _))
  have h2 := foldF_mem (f := min) (p := fun n => 0 ≤ n ∧ n ≤ 1000000) (fun a b ha hb => by omega) hB _ (List.getElem_mem (l := foldF min l) (by simp at hi; omega : i < _))
  omega
theorem prune_kept (l : List (List Int)) (h1 : 1 ≤ l.length) (h2 : l.length ≤ 1000000) (hr : ∀ row ∈ l, row.length = l.length) (hB : ∀ r ∈ l, ∀ n ∈ r, 0 ≤ n ∧ n ≤ 1000000) : PC Go.Proofs.Tryz.prog 106 [aRows l] (ai (keptF l)) := by
  have hlm := foldF_len (f := min) h1 hr
  have hlM := foldF_len (f := max) h1 hr
  have hkb := kept_bound hB
  have hzl : (kZ l).length = l.length := by unfold kZ; rw [List.length_zipWith]; omega
  have f1 := fold_sq l h1 h2 hr min _ rfl (fun a b => (prune_least a b).val)
  have f2 := fold_sq l h1 h2 hr max _ rfl (fun a b => (prune_greatest a b).val)
  have hzg : ∀ j (hj : j < l.length), (kZ l)[j]'(by omega) = (foldF max l)[j]'(by omega) - (foldF min l)[j]'(by omega) := fun j hj => List.getElem_zipWith
  have hmm : ∀ n ∈ foldF max l, 0 ≤ n ∧ n ≤ 1000000 := foldF_mem (p := fun n => 0 ≤ n ∧ n ≤ 1000000) (fun a b ha hb => by omega) hB
  have hmn : ∀ n ∈ foldF min l, 0 ≤ n ∧ n ≤ 1000000 := foldF_mem (p := fun n => 0 ≤ n ∧ n ≤ 1000000) (fun a b ha hb => by omega) hB
  refine PC.enter 27 [.tmp 2] [] Go.Proofs.Tryz.func106 rfl rfl rfl rfl rfl (by simp) (AWp.of ?_); simp only [go_sem]
  repeat (first | ((with_reducible refine AWp.ofC ?_ ?_); (focus exact rfl); simp only [go_sem]) | ((with_reducible refine an ?_ ?_); focus exact Au))
  repeat ((with_reducible refine an ?_ ?_); focus exact As)
  refine (f1).val.use ?_; simp only [go_sem]
  repeat ((with_reducible refine an ?_ ?_); focus exact As)
  refine AWp.of ?_; simp only [go_sem]
  repeat ((with_reducible refine an ?_ ?_); focus exact As)
  refine (f2).val.use ?_; simp only [go_sem]
  refine AWp.range' l.length [4] [3, 10, 11] (fun j vs L => L = [] ∧ vs = [ai ((kZ l).take j).sum]) (by omega) rfl (by simp [get, hlM]) rfl ⟨rfl, rfl⟩ ?_ ?_
  · rintro j vs L' hj - ⟨rfl, rfl⟩
    have hjM : j < (foldF max l).length := by omega
    have hjm : j < (foldF min l).length := by omega
    have hsu := sum_take (kZ l) j (by omega)
    have hb := sum_bound (Z := (kZ l).take j) (fun z hz => hkb z (List.mem_of_mem_take hz))
    have htl : ((kZ l).take j).length ≤ 1000000 := by rw [List.length_take]; omega
    have hb1 := hmm _ (List.getElem_mem hjM)
    have hb2 := hmn _ (List.getElem_mem hjm)
    rw [hzg j hj] at hsu
    simp only [go_sem]
    repeat ((with_reducible refine an ?_ ?_); focus exact As)
    refine AWp.of ?_; simp only [go_sem, getD_map hjM]
    repeat (first | ((with_reducible refine AWp.ofC ?_ ?_); (focus exact rfl); simp only [go_sem, getD_map hjm]) | ((with_reducible refine an ?_ ?_); focus exact Au))
    repeat ((with_reducible refine an ?_ ?_); focus exact As)
    exact ⟨_, List.Sublist.refl _, rfl, by rw [hsu]⟩
  · rintro vs L' - ⟨rfl, rfl⟩
    simp only [go_sem]
    repeat (first | ((with_reducible refine AWp.ofC ?_ ?_); (focus exact rfl); simp only [go_sem]) | ((with_reducible refine an ?_ ?_); focus exact Au))
    refine ret_eq ?_; simp only [go_sem]
    unfold keptF; rw [List.take_of_length_le (by omega)]
theorem prune_Kept (l : List (List Int)) (hl : l.length ≤ 1000000) (hr : ∀ row ∈ l, row.length ≤ 1000000) : PC Go.Proofs.Tryz.prog 76 [aRows l] (aKept l) := by
  refine PC.enter 9 [.tmp 2, .tmp 3] [] Go.Proofs.Tryz.func76 rfl rfl rfl rfl rfl (by simp) (AWp.of ?_); simp only [go_sem]
  repeat (first | ((with_reducible refine AWp.ofC ?_ ?_); (focus exact rfl); simp only [go_sem]) | ((with_reducible refine an ?_ ?_); focus exact Au))
  repeat ((with_reducible refine an ?_ ?_); focus exact As)
  refine (prune_knowledge l hl hr).val.use ?_; simp only [go_sem]
  repeat (first | ((with_reducible refine AWp.ofC ?_ ?_); (focus exact rfl); simp only [go_sem]) | ((with_reducible refine an ?_ ?_); focus exact Au))
  refine ⟨fun h1 => ?_, fun h1 => ?_⟩
  · repeat (first | ((with_reducible refine AWp.ofC ?_ ?_); (focus exact rfl); simp only [go_sem]) | ((with_reducible refine an ?_ ?_); focus exact Au))
    have e : aKept l = .tup [ai 0, ai 1] := by unfold aKept; rw [h1]; rfl
    rw [e]
    refine ret_eq ?_; simp only [go_sem]
  · have e : aKept l = .tup [ai (keptF l), ai 0] := by unfold aKept; rw [h1]; rfl
    obtain ⟨k1, k2, k3⟩ := isKn_inv h1
    repeat (first | ((with_reducible refine AWp.ofC ?_ ?_); (focus exact rfl); simp only [go_sem]) | ((with_reducible refine an ?_ ?_); focus exact Au))
    repeat ((with_reducible refine an ?_ ?_); focus exact As)
    refine (prune_kept l k1 hl (fun r hr => (k3 r hr).1) (fun r hr n hn => by have := (k3 r hr).2 n hn; omega)).val.use ?_; simp only [go_sem]
    repeat (first | ((with_reducible refine AWp.ofC ?_ ?_); (focus exact rfl); simp only [go_sem]) | ((with_reducible refine an ?_ ?_); focus exact Au))
    rw [e]
    refine ret_eq ?_; simp only [go_sem]
end Go.AL
end
section
namespace Go.AL
open Go Go.RowKit
set_option maxRecDepth 4000
theorem ref12_SameEvent (a b : Ev) (ha : a.asg.length ≤ 1000000) : PC Go.Proofs.Tryz.prog 83 [aEv a, aEv b] (ab (decide (a = b))) := by
  refine PC.enter 59 [.tmp 4] [2, 3] Go.Proofs.Tryz.func83 rfl rfl rfl rfl rfl (by simp) (AWp.of ?_); simp only [go_sem]
  repeat (first | ((with_reducible refine AWp.ofC ?_ ?_); (focus exact rfl); simp only [go_sem]) | ((with_reducible refine an ?_ ?_); focus exact Au))
  refine ⟨fun h1 => ?_, fun h1 h2 h3 h4 h5 => ?_⟩
  · repeat (first | ((with_reducible refine AWp.ofC ?_ ?_); (focus exact rfl); simp only [go_sem]) | ((with_reducible refine an ?_ ?_); focus exact Au))
    refine ret_eq ?_; simp only [go_sem]
    congr 2; symm; apply decide_eq_false; rintro rfl; simp at h1
  · have hl : a.asg.length = b.asg.length := by omega
    repeat (first | ((with_reducible refine AWp.ofC ?_ ?_); (focus exact rfl); simp only [go_sem]) | ((with_reducible refine an ?_ ?_); focus exact Au))
    refine AWp.block (AWp.count 5 a.asg.length [] [2, 3] (fun k vs L => L = [] ∧ ∀ (i : Nat) (hi : i < a.asg.length), i < k → a.asg[i] = b.asg[i]) rfl rfl ⟨rfl, by omega⟩ ?_)
    rintro k vs L' hk - ⟨rfl, hI⟩
    simp only [go_sem]
    repeat (first | ((with_reducible refine AWp.ofC ?_ ?_); (focus exact rfl); simp only [go_sem]) | ((with_reducible refine an ?_ ?_); focus exact Au))
    refine ⟨fun h6 => ?_, fun h6 => ?_⟩
    · have hka : k < a.asg.length := by omega
      have hkb : k < b.asg.length := by omega
      refine AWp.seq (AWp.block (AWp.seq ?_))
      refine AWp.drawn mixed 11 (by kernel_rfl) ?_; simp only [go_sem, getD_map hka, getD_map hkb]
      repeat ((with_reducible refine an ?_ ?_); focus exact As)
      repeat (first | ((with_reducible refine AWp.ofC ?_ ?_); (focus exact rfl); simp only [go_sem]) | ((with_reducible refine an ?_ ?_); focus exact Au))
      refine ⟨fun h7 => ?_, fun h7 h8 => ?_⟩
      · repeat (first | ((with_reducible refine AWp.ofC ?_ ?_); (focus exact rfl); simp only [go_sem]) | ((with_reducible refine an ?_ ?_); focus exact Au))
        refine ret_eq ?_; simp only [go_sem]
        congr 2; symm; apply decide_eq_false; rintro rfl; simp at h7
      · repeat (first | ((with_reducible refine AWp.ofC ?_ ?_); (focus exact rfl); simp only [go_sem]) | ((with_reducible refine an ?_ ?_); focus exact Au))
        refine ⟨_, List.Sublist.refl _, rfl, fun i hi hik => ?_⟩
        by_cases e : i = k
        · subst e; exact Prod.ext h7 h8
        · exact hI i hi (by omega)
    · repeat (first | ((with_reducible refine AWp.ofC ?_ ?_); (focus exact rfl); simp only [go_sem]) | ((with_reducible refine an ?_ ?_); focus exact Au))
      refine ret_eq ?_; simp only [go_sem]
      congr 2; symm; apply decide_eq_true
      obtain ⟨k1, k2, k3, k4, k5⟩ := a
      obtain ⟨m1, m2, m3, m4, m5⟩ := b
      simp only [Ev.mk.injEq]
      simp only at h1 h2 h3 h4 h5 hI h6 hl
      exact ⟨h1, h2, h3, h4, List.ext_getElem hl (fun i hi _ => hI i hi (by omega))⟩
theorem ref12_Same (a b : List Pr) (ha : Sm a) : PC Go.Proofs.Tryz.prog 50 [aTr a, aTr b] (ab (decide (a = b))) := by
  have hla := ha.procs
  refine PC.enter 94 [.tmp 4] [2, 3, 6, 7] Go.Proofs.Tryz.func50 rfl rfl rfl rfl rfl (by simp) (AWp.of ?_); simp only [go_sem]
  repeat (first | ((with_reducible refine AWp.ofC ?_ ?_); (focus exact rfl); simp only [go_sem]) | ((with_reducible refine an ?_ ?_); focus exact Au))
  refine ⟨fun h1 => ?_, fun h1 => ?_⟩
  · repeat (first | ((with_reducible refine AWp.ofC ?_ ?_); (focus exact rfl); simp only [go_sem]) | ((with_reducible refine an ?_ ?_); focus exact Au))
    refine ret_eq ?_; simp only [go_sem]
    congr 2; symm; apply decide_eq_false; rintro rfl; simp at h1
  · have hl : a.length = b.length := by omega
    repeat (first | ((with_reducible refine AWp.ofC ?_ ?_); (focus exact rfl); simp only [go_sem]) | ((with_reducible refine an ?_ ?_); focus exact Au))
    refine AWp.block (AWp.count 5 a.length [] [2, 3] (fun k vs L => L = [] ∧ ∀ (i : Nat) (hi : i < a.length), i < k → a[i] = b[i]) rfl rfl ⟨rfl, by omega⟩ ?_)
    rintro k vs L' hk - ⟨rfl, hI⟩
    simp only [go_sem]
    repeat (first | ((with_reducible refine AWp.ofC ?_ ?_); (focus exact rfl); simp only [go_sem]) | ((with_reducible refine an ?_ ?_); focus exact Au))
    refine ⟨fun h2 => ?_, fun h2 => ?_⟩
    · have hka : k < a.length := by omega
      have hkb : k < b.length := by omega
      have hm := List.getElem_mem hka
      have hev := ha.evs _ hm
      have hvr := ha.vars _ hm
      have hne : a[k] ≠ b[k] → decide (a = b) = false := fun h => decide_eq_false (fun e => h (by subst e; rfl))
      have hA : (List.map aPr a).getD k .any = aPr a[k] := getD_map hka
      have hB : (List.map aPr b).getD k .any = aPr b[k] := getD_map hkb
      have hasg := ha.asg _ hm
      have hxy : a[k] = b[k] → ∀ (i : Nat) (hi : i < a.length), i = k → a[i] = b[i] := by intro h i hi e; subst e; exact h
      generalize a[k] = x at *
      generalize b[k] = y at *
      refine AWp.seq (AWp.block (AWp.cut [2, 3, 5, 6, 7] (fun vs L => L = [] ∧ vs = [.rp 1 [aTr a] 0 0, .rp 1 [aTr b] 0 0, ai k, .rp 3 [aPr x] 0 0, .rp 3 [aPr y] 0 0]) ?_ ?_))
      · refine AWp.mix mixed [0, 1, 2, 3, 4, 5, 6, 7, 8, 9] (.step 10 (.step 11 (.step 12 (.step 13 .done .done) .done) .done) (.step 11 (.step 10 (.step 12 (.step 13 .done .done) .done) .done) .done)) (by kernel_rfl) ?_; simp only [go_sem, hA, hB]
        repeat ((with_reducible refine an ?_ ?_); focus exact As)
        refine ⟨fun b1 b2 hb => ?_, fun b1 b2 hb => ?_⟩
        · have n1 : ¬ b1 = b2 := by omega
          have n2 : ¬ b2 = b1 := by omega
          try simp only [go_sem, n1]
          exact ⟨_, List.Sublist.refl _, by simp⟩
        · have n1 : ¬ b1 = b2 := by omega
          have n2 : ¬ b2 = b1 := by omega
          try simp only [go_sem, n1, n2]
          exact ⟨_, List.Sublist.refl _, by simp⟩
      · rintro vs L' - ⟨rfl, rfl⟩
        simp only [go_sem]
        repeat (first | ((with_reducible refine AWp.ofC ?_ ?_); (focus exact rfl); simp only [go_sem]) | ((with_reducible refine an ?_ ?_); focus exact Au))
        refine ⟨fun h3 => ?_, fun h3 h4 h5 => ?_⟩
        · repeat (first | ((with_reducible refine AWp.ofC ?_ ?_); (focus exact rfl); simp only [go_sem]) | ((with_reducible refine an ?_ ?_); focus exact Au))
          refine ret_eq ?_; simp only [go_sem]
          congr 2; symm; apply hne; rintro rfl; simp at h3
        · have hlv : x.vars.length = y.vars.length := by omega
          have hle : x.evs.length = y.evs.length := by omega
          repeat (first | ((with_reducible refine AWp.ofC ?_ ?_); (focus exact rfl); simp only [go_sem]) | ((with_reducible refine an ?_ ?_); focus exact Au))
          refine AWp.block (AWp.count 8 x.vars.length [] [2, 3, 5, 6, 7] (fun j vs L => L = [] ∧ ∀ (i : Nat) (hi : i < x.vars.length), i < j → x.vars[i] = y.vars[i]) rfl rfl ⟨rfl, by omega⟩ ?_)
          rintro j vs L' hj - ⟨rfl, hJ⟩
          simp only [go_sem]
          repeat (first | ((with_reducible refine AWp.ofC ?_ ?_); (focus exact rfl); simp only [go_sem]) | ((with_reducible refine an ?_ ?_); focus exact Au))
          refine ⟨fun h6 => ?_, fun h6 => ?_⟩
          · have hja : j < x.vars.length := by omega
            have hjb : j < y.vars.length := by omega
            refine AWp.seq (AWp.block (AWp.seq ?_))
            refine AWp.drawn mixed 11 (by kernel_rfl) ?_; simp only [go_sem, getD_map hja, getD_map hjb]
            repeat ((with_reducible refine an ?_ ?_); focus exact As)
            repeat (first | ((with_reducible refine AWp.ofC ?_ ?_); (focus exact rfl); simp only [go_sem]) | ((with_reducible refine an ?_ ?_); focus exact Au))
            refine ⟨fun h7 => ?_, fun h7 h8 => ?_⟩
            · repeat (first | ((with_reducible refine AWp.ofC ?_ ?_); (focus exact rfl); simp only [go_sem]) | ((with_reducible refine an ?_ ?_); focus exact Au))
              refine ret_eq ?_; simp only [go_sem]
              congr 2; symm; apply hne; rintro rfl; simp at h7
            · repeat (first | ((with_reducible refine AWp.ofC ?_ ?_); (focus exact rfl); simp only [go_sem]) | ((with_reducible refine an ?_ ?_); focus exact Au))
              refine ⟨_, List.Sublist.refl _, rfl, fun i hi hij => ?_⟩
              by_cases e : i = j
              · subst e; exact Prod.ext h7 h8
              · exact hJ i hi (by omega)
          · repeat (first | ((with_reducible refine AWp.ofC ?_ ?_); (focus exact rfl); simp only [go_sem]) | ((with_reducible refine an ?_ ?_); focus exact Au))
            refine AWp.block (AWp.count 9 x.evs.length [] [2, 3, 5, 6, 7] (fun j vs L => L = [] ∧ ∀ (i : Nat) (hi : i < x.evs.length), i < j → x.evs[i] = y.evs[i]) rfl rfl ⟨rfl, by omega⟩ ?_)
            rintro m vs L' hm - ⟨rfl, hM⟩
            simp only [go_sem]
            repeat (first | ((with_reducible refine AWp.ofC ?_ ?_); (focus exact rfl); simp only [go_sem]) | ((with_reducible refine an ?_ ?_); focus exact Au))
            refine ⟨fun h9 => ?_, fun h9 => ?_⟩
            · have hma : m < x.evs.length := by omega
              have hmb : m < y.evs.length := by omega
              refine AWp.seq (AWp.block (AWp.seq ?_))
              refine AWp.drawn mixed 10 (by kernel_rfl) ?_; simp only [go_sem, getD_map hma, getD_map hmb]
              repeat ((with_reducible refine an ?_ ?_); focus exact As)
              repeat ((with_reducible refine an ?_ ?_); focus exact As)
              refine (ref12_SameEvent x.evs[m] y.evs[m] (hasg _ (List.getElem_mem hma))).val.use ?_; simp only [go_sem]
              repeat (first | ((with_reducible refine AWp.ofC ?_ ?_); (focus exact rfl); simp only [go_sem]) | ((with_reducible refine an ?_ ?_); focus exact Au))
              refine ⟨fun h7 => ?_, fun h7 => ?_⟩
              · repeat (first | ((with_reducible refine AWp.ofC ?_ ?_); (focus exact rfl); simp only [go_sem]) | ((with_reducible refine an ?_ ?_); focus exact Au))
                refine ret_eq ?_; simp only [go_sem]
                congr 2; symm; apply hne; rintro rfl; exact h7 rfl
              · repeat (first | ((with_reducible refine AWp.ofC ?_ ?_); (focus exact rfl); simp only [go_sem]) | ((with_reducible refine an ?_ ?_); focus exact Au))
                refine ⟨_, List.Sublist.refl _, rfl, fun i hi hij => ?_⟩
                by_cases e : i = m
                · subst e; exact h7
                · exact hM i hi (by omega)
            · repeat (first | ((with_reducible refine AWp.ofC ?_ ?_); (focus exact rfl); simp only [go_sem]) | ((with_reducible refine an ?_ ?_); focus exact Au))
              refine ⟨_, List.Sublist.refl _, rfl, fun i hi hik => ?_⟩
              by_cases e : i = k
              · refine hxy ?_ i hi e
                obtain ⟨k1, k2, k3⟩ := x
                obtain ⟨m1, m2, m3⟩ := y
                simp only [Pr.mk.injEq]
                simp only at h3 hlv hle hJ hM h6 h9
                exact ⟨h3, List.ext_getElem hlv (fun i hi _ => hJ i hi (by omega)), List.ext_getElem hle (fun i hi _ => hM i hi (by omega))⟩
              · exact hI i hi (by omega)
    · repeat (first | ((with_reducible refine AWp.ofC ?_ ?_); (focus exact rfl); simp only [go_sem]) | ((with_reducible refine an ?_ ?_); focus exact Au))
      refine ret_eq ?_; simp only [go_sem]
      congr 2; symm; apply decide_eq_true
      exact List.ext_getElem hl (fun i hi _ => hI i hi (by omega))
end Go.AL
end
