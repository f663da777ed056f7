/- Vector clocks, plainly: which stamps the events of a trace get, and what is executed in an order. No condition. -/
import Derived.Test.YtkfkdmefabefkaaWKn2
namespace Go.AL
open Go Go.RowKit
set_option maxRecDepth 4000
def evq (ps : List Pr) (p k : Nat) : Ev := (ps.getD p ⟨⟨#[]⟩, [], []⟩).evs.getD k ⟨0, 0, 0, 0, []⟩
def nev (ps : List Pr) (p : Nat) : Nat := (ps.getD p ⟨⟨#[]⟩, [], []⟩).evs.length
def sndr (ps : List Pr) (m : Int) : Eid := findIn (evIds ps) 2 m
theorem nev_get {ps : List Pr} {p : Nat} (hp : p < ps.length) : nev ps p = ps[p].evs.length := by simp [nev, hp]
theorem evq_get {ps : List Pr} {p k : Nat} (hp : p < ps.length) (hk : k < ps[p].evs.length) : evq ps p k = ps[p].evs[k] := by simp [evq, hp, hk]
/-- A process can execute its next event, where c counts what was executed. -/
def Rdy (ps : List Pr) (c : Nat → Nat) (p : Nat) : Prop :=
  p < ps.length ∧ c p < nev ps p ∧ ((evq ps p (c p)).kind = 3 → 0 < (sndr ps (evq ps p (c p)).msg).2 ∧ (sndr ps (evq ps p (c p)).msg).2 ≤ c (sndr ps (evq ps p (c p)).msg).1.toNat)
instance (ps : List Pr) (c : Nat → Nat) (p : Nat) : Decidable (Rdy ps c p) := by unfold Rdy; infer_instance
theorem Rdy.mono {ps : List Pr} {c c' : Nat → Nat} {p : Nat} (h : Rdy ps c p) (hc : ∀ q, c q ≤ c' q) (hp : c' p = c p) : Rdy ps c' p := by
  obtain ⟨h1, h2, h3⟩ := h
  refine ⟨h1, by rw [hp]; exact h2, fun hk => ?_⟩
  rw [hp] at hk ⊢
  obtain ⟨g1, g2⟩ := h3 hk
  have := hc (sndr ps (evq ps p (c p)).msg).1.toNat
  exact ⟨g1, by omega⟩
def joinV (v w : List Int) : List Int := List.zipWith max v w
def tickV (v : List Int) (p : Nat) : List Int := v.set p (v.getD p 0 + 1)
def stOf (S : Nat → List (List Int)) (p k : Nat) : List Int := (S p).getD k []
def preV (ps : List Pr) (S : Nat → List (List Int)) (p k : Nat) : List Int := if k = 0 then List.replicate ps.length 0 else stOf S p (k - 1)
def rawV (ps : List Pr) (S : Nat → List (List Int)) (p k : Nat) : List Int :=
  if (evq ps p k).kind = 3 then joinV (preV ps S p k) (stOf S (sndr ps (evq ps p k).msg).1.toNat ((sndr ps (evq ps p k).msg).2 - 1).toNat) else preV ps S p k
def vecV (ps : List Pr) (S : Nat → List (List Int)) (p k : Nat) : List Int := tickV (rawV ps S p k) p
def upS (S : Nat → List (List Int)) (p : Nat) (v : List Int) : Nat → List (List Int) := fun q => if q = p then S p ++ [v] else S q
def lenS (S : Nat → List (List Int)) : Nat → Nat := fun q => (S q).length
inductive Gen (ps : List Pr) : (Nat → List (List Int)) → Prop
  | init : Gen ps fun _ => []
  | step {S : Nat → List (List Int)} {p : Nat} (h : Gen ps S) (hr : Rdy ps (lenS S) p) : Gen ps (upS S p (vecV ps S p (S p).length))
theorem getD_set0 (v : List Int) (p j : Nat) (x : Int) : (v.set p x).getD j 0 = if p = j ∧ p < v.length then x else v.getD j 0 := by
  rw [List.getD_eq_getElem?_getD, List.getElem?_set]
  by_cases h : p = j
  · subst h
    by_cases h2 : p < v.length
    · simp [h2]
    · simp [h2]
  · simp [h, List.getD_eq_getElem?_getD]
theorem joinV_getD {v w : List Int} (h : v.length = w.length) (j : Nat) : (joinV v w).getD j 0 = max (v.getD j 0) (w.getD j 0) := by
  unfold joinV
  rw [List.getD_eq_getElem?_getD, List.getElem?_zipWith]
  by_cases hj : j < v.length
  · have hw : j < w.length := by omega
    simp [hj, hw]
  · have hw : ¬ j < w.length := by omega
    simp [hj, hw]
theorem joinV_length {v w : List Int} (h : v.length = w.length) : (joinV v w).length = v.length := by unfold joinV; rw [List.length_zipWith]; omega
theorem tickV_length (v : List Int) (p : Nat) : (tickV v p).length = v.length := by simp [tickV]
theorem upS_len (S : Nat → List (List Int)) (p : Nat) (v : List Int) (q : Nat) : (upS S p v q).length = if q = p then (S p).length + 1 else (S q).length := by
  unfold upS; split <;> simp
theorem upS_le (S : Nat → List (List Int)) (p : Nat) (v : List Int) (q : Nat) : (S q).length ≤ (upS S p v q).length := by
  rw [upS_len]; split
  · rename_i h; subst h; omega
  · omega
theorem upS_old {S : Nat → List (List Int)} {p : Nat} {v : List Int} {q k : Nat} (h : k < (S q).length) : stOf (upS S p v) q k = stOf S q k := by
  unfold stOf upS
  split
  · rename_i e; subst e; rw [List.getD_eq_getElem?_getD, List.getElem?_append_left h, ← List.getD_eq_getElem?_getD]
  · rfl
theorem upS_new {S : Nat → List (List Int)} {p : Nat} {v : List Int} : stOf (upS S p v) p (S p).length = v := by
  unfold stOf upS
  rw [if_pos rfl, List.getD_eq_getElem?_getD, List.getElem?_append_right (Nat.le_refl _)]
  simp
theorem vecV_congr {ps : List Pr} {S S' : Nat → List (List Int)} {p k : Nat} (h1 : k ≠ 0 → stOf S' p (k - 1) = stOf S p (k - 1))
    (h2 : (evq ps p k).kind = 3 → stOf S' (sndr ps (evq ps p k).msg).1.toNat ((sndr ps (evq ps p k).msg).2 - 1).toNat = stOf S (sndr ps (evq ps p k).msg).1.toNat ((sndr ps (evq ps p k).msg).2 - 1).toNat) : vecV ps S' p k = vecV ps S p k := by
  have e1 : preV ps S' p k = preV ps S p k := by
    unfold preV
    by_cases h : k = 0
    · rw [if_pos h, if_pos h]
    · rw [if_neg h, if_neg h, h1 h]
  unfold vecV rawV
  rw [e1]
  by_cases h : (evq ps p k).kind = 3
  · rw [if_pos h, if_pos h, h2 h]
  · rw [if_neg h, if_neg h]
/-- Each stamp is made of the one before it and the sender's. -/
theorem Gen.eqn {ps : List Pr} {S : Nat → List (List Int)} (h : Gen ps S) : ∀ p k, k < (S p).length → p < ps.length ∧ k < nev ps p ∧ stOf S p k = vecV ps S p k ∧
    ((evq ps p k).kind = 3 → 0 < (sndr ps (evq ps p k).msg).2 ∧ (sndr ps (evq ps p k).msg).2 ≤ (S (sndr ps (evq ps p k).msg).1.toNat).length) := by
  induction h with
  | init => intro p k h; simp at h
  | @step S r h hr ih =>
    intro p k hk
    have hle := fun q => upS_le S r (vecV ps S r (S r).length) q
    by_cases hold : k < (S p).length
    · obtain ⟨h1, h2, h3, h4⟩ := ih p k hold
      refine ⟨h1, h2, ?_, fun h => ⟨(h4 h).1, by have := (h4 h).2; have := hle (sndr ps (evq ps p k).msg).1.toNat; omega⟩⟩
      rw [upS_old hold, h3]
      refine (vecV_congr (fun h0 => upS_old (by omega)) fun h => upS_old ?_).symm
      have := h4 h; omega
    · rw [upS_len] at hk
      by_cases e : p = r
      · subst e
        rw [if_pos rfl] at hk
        have ek : k = (S p).length := by omega
        subst ek
        obtain ⟨h1, h2, h3⟩ := hr
        simp only [lenS] at h2 h3
        refine ⟨h1, h2, ?_, fun h => ⟨(h3 h).1, by have := (h3 h).2; have := hle (sndr ps (evq ps p (S p).length).msg).1.toNat; omega⟩⟩
        rw [upS_new]
        refine (vecV_congr (fun h0 => upS_old (by omega)) fun h => upS_old ?_).symm
        have := h3 h; omega
      · rw [if_neg e] at hk; exact absurd hk hold
theorem Gen.le_nev {ps : List Pr} {S : Nat → List (List Int)} (h : Gen ps S) (p : Nat) : (S p).length ≤ nev ps p := by
  by_cases h0 : (S p).length = 0
  · omega
  · have := (h.eqn p ((S p).length - 1) (by omega)).2.1; omega
theorem Gen.out {ps : List Pr} {S : Nat → List (List Int)} (h : Gen ps S) {p : Nat} (hp : ¬ p < ps.length) : S p = [] := by
  by_cases h0 : (S p).length = 0
  · exact List.eq_nil_of_length_eq_zero h0
  · exact absurd (h.eqn p ((S p).length - 1) (by omega)).1 hp
/-- What is generated is the beginning of whatever can't go on. -/
theorem Gen.le {ps : List Pr} {S S' : Nat → List (List Int)} (h : Gen ps S) (h' : Gen ps S') (hm : ∀ p, ¬ Rdy ps (lenS S') p) : ∀ p, (S p).length ≤ (S' p).length ∧ ∀ k, k < (S p).length → stOf S p k = stOf S' p k := by
  induction h with
  | init => intro p; exact ⟨Nat.zero_le _, fun k hk => by simp at hk⟩
  | @step S r h hr ih =>
    have hlt : (S r).length < (S' r).length := by
      refine Nat.lt_of_le_of_ne (ih r).1 fun e => hm r ?_
      exact hr.mono (fun q => (ih q).1) e.symm
    intro p
    rw [upS_len]
    by_cases e : p = r
    · subst e
      rw [if_pos rfl]
      refine ⟨hlt, fun k hk => ?_⟩
      by_cases hold : k < (S p).length
      · rw [upS_old hold]; exact (ih p).2 k hold
      · have ek : k = (S p).length := by omega
        subst ek
        rw [upS_new, (h'.eqn p _ hlt).2.2.1]
        refine vecV_congr (fun h0 => (ih p).2 _ (by omega)) fun hk => (ih _).2 _ ?_
        have := hr.2.2 hk
        simp only [lenS] at this
        omega
    · rw [if_neg e]
      refine ⟨(ih p).1, fun k hk => ?_⟩
      rw [upS_old hk]; exact (ih p).2 k hk
theorem Gen.unique {ps : List Pr} {S S' : Nat → List (List Int)} (h : Gen ps S) (hm : ∀ p, ¬ Rdy ps (lenS S) p) (h' : Gen ps S') (hm' : ∀ p, ¬ Rdy ps (lenS S') p) : S = S' := by
  funext p
  have h1 := h.le h' hm' p
  have h2 := h'.le h hm p
  refine List.ext_getElem (by omega) fun k k1 k2 => ?_
  have := h1.2 k k1
  simpa [stOf, k1, k2] using this
open Classical in
noncomputable def stampF (ps : List Pr) : Nat → List (List Int) := if h : ∃ S, Gen ps S ∧ ∀ p, ¬ Rdy ps (lenS S) p then Classical.choose h else fun _ => []
theorem stampF_eq {ps : List Pr} {S : Nat → List (List Int)} (h : Gen ps S) (hm : ∀ p, ¬ Rdy ps (lenS S) p) : stampF ps = S := by
  have hx : ∃ S, Gen ps S ∧ ∀ p, ¬ Rdy ps (lenS S) p := ⟨S, h, hm⟩
  have e : stampF ps = Classical.choose hx := dif_pos hx
  rw [e]
  exact (Classical.choose_spec hx).1.unique (Classical.choose_spec hx).2 h hm
theorem zeros_getD (n j : Nat) : (List.replicate n (0 : Int)).getD j 0 = 0 := by
  rw [List.getD_eq_getElem?_getD, List.getElem?_replicate]
  split <;> rfl
theorem tickV_getD (v : List Int) (p j : Nat) : (tickV v p).getD j 0 = if p = j ∧ p < v.length then v.getD p 0 + 1 else v.getD j 0 := getD_set0 v p j _
/-- Bounds that hold of what goes before hold of a new stamp. -/
theorem vecV_bound {ps : List Pr} {S : Nat → List (List Int)} {p k : Nat} {B : Nat → Int} (hB : ∀ j, 0 ≤ B j) (h1 : k ≠ 0 → (stOf S p (k - 1)).length = ps.length ∧ ∀ j, 0 ≤ (stOf S p (k - 1)).getD j 0 ∧ (stOf S p (k - 1)).getD j 0 ≤ B j)
    (h2 : (evq ps p k).kind = 3 → (stOf S (sndr ps (evq ps p k).msg).1.toNat ((sndr ps (evq ps p k).msg).2 - 1).toNat).length = ps.length ∧
      ∀ j, 0 ≤ (stOf S (sndr ps (evq ps p k).msg).1.toNat ((sndr ps (evq ps p k).msg).2 - 1).toNat).getD j 0 ∧ (stOf S (sndr ps (evq ps p k).msg).1.toNat ((sndr ps (evq ps p k).msg).2 - 1).toNat).getD j 0 ≤ B j) :
    (rawV ps S p k).length = ps.length ∧ (∀ j, 0 ≤ (rawV ps S p k).getD j 0 ∧ (rawV ps S p k).getD j 0 ≤ B j) ∧ (vecV ps S p k).length = ps.length ∧ ∀ j, 0 ≤ (vecV ps S p k).getD j 0 ∧ (vecV ps S p k).getD j 0 ≤ B j + (if p = j then 1 else 0) := by
  have hpre : (preV ps S p k).length = ps.length ∧ ∀ j, 0 ≤ (preV ps S p k).getD j 0 ∧ (preV ps S p k).getD j 0 ≤ B j := by
    unfold preV
    by_cases h : k = 0
    · rw [if_pos h]; exact ⟨by simp, fun j => by rw [zeros_getD]; exact ⟨Int.le_refl _, hB j⟩⟩
    · rw [if_neg h]; exact h1 h
  have hraw : (rawV ps S p k).length = ps.length ∧ ∀ j, 0 ≤ (rawV ps S p k).getD j 0 ∧ (rawV ps S p k).getD j 0 ≤ B j := by
    unfold rawV
    by_cases h : (evq ps p k).kind = 3
    · rw [if_pos h]
      obtain ⟨g1, g2⟩ := h2 h
      have hl : (preV ps S p k).length = (stOf S (sndr ps (evq ps p k).msg).1.toNat ((sndr ps (evq ps p k).msg).2 - 1).toNat).length := by rw [hpre.1, g1]
      refine ⟨(joinV_length hl).trans hpre.1, fun j => ?_⟩
      rw [joinV_getD hl]
      have a := hpre.2 j
      have b := g2 j
      omega
    · rw [if_neg h]; exact hpre
  refine ⟨hraw.1, hraw.2, (tickV_length _ _).trans hraw.1, fun j => ?_⟩
  unfold vecV
  rw [tickV_getD]
  have a := hraw.2 j
  by_cases h : p = j
  · subst h
    rw [if_pos rfl]
    split <;> omega
  · rw [if_neg h, if_neg fun h' => h h'.1]; omega
theorem Gen.bound {ps : List Pr} {S : Nat → List (List Int)} (h : Gen ps S) : ∀ p k, k < (S p).length → (stOf S p k).length = ps.length ∧ ∀ j, 0 ≤ (stOf S p k).getD j 0 ∧ (stOf S p k).getD j 0 ≤ (S j).length := by
  induction h with
  | init => intro p k h; simp at h
  | @step S r h hr ih =>
    intro p k hk
    by_cases hold : k < (S p).length
    · rw [upS_old hold]
      obtain ⟨h1, h2⟩ := ih p k hold
      refine ⟨h1, fun j => ?_⟩
      have := upS_le S r (vecV ps S r (S r).length) j
      have := h2 j
      omega
    · rw [upS_len] at hk
      by_cases e : p = r
      · subst e
        rw [if_pos rfl] at hk
        have ek : k = (S p).length := by omega
        subst ek
        rw [upS_new]
        have hb := vecV_bound (ps := ps) (S := S) (p := p) (k := (S p).length) (B := fun j => ((S j).length : Int)) (fun j => by simp) (fun h0 => ih p _ (by omega)) (fun h3 => by
          have := hr.2.2 h3
          simp only [lenS] at this
          exact ih _ _ (by omega))
        refine ⟨hb.2.2.1, fun j => ?_⟩
        have := hb.2.2.2 j
        rw [upS_len]
        by_cases e : j = p
        · subst e; rw [if_pos rfl] at this; rw [if_pos rfl]; omega
        · rw [if_neg (Ne.symm e)] at this; rw [if_neg e]; omega
      · rw [if_neg e] at hk; exact absurd hk hold
/-- What is known of a new stamp's parts when it is made. -/
theorem Gen.next {ps : List Pr} {S : Nat → List (List Int)} (h : Gen ps S) {p : Nat} (hr : Rdy ps (lenS S) p) : (rawV ps S p (S p).length).length = ps.length ∧ ∀ j, 0 ≤ (rawV ps S p (S p).length).getD j 0 ∧ (rawV ps S p (S p).length).getD j 0 ≤ (S j).length := by
  have hb := vecV_bound (ps := ps) (S := S) (p := p) (k := (S p).length) (B := fun j => ((S j).length : Int)) (fun j => by simp) (fun h0 => h.bound p _ (by omega)) (fun h3 => by
    have := hr.2.2 h3
    simp only [lenS] at this
    exact h.bound _ _ (by omega))
  exact ⟨hb.1, hb.2.1⟩
/-! ### Executions in an order -/
def doneF (order : List Int) (k : Nat) : Nat → Nat := fun q => (order.take k).count (q : Int)
def RunOk (ps : List Pr) (order : List Int) (k : Nat) : Prop := ∀ j, j < k → 0 ≤ order.getD j 0 ∧ Rdy ps (doneF order j) (order.getD j 0).toNat
theorem doneF_succ {order : List Int} {k : Nat} (hk : k < order.length) (h0 : 0 ≤ order.getD k 0) (q : Nat) : doneF order (k + 1) q = doneF order k q + if (order.getD k 0).toNat = q then 1 else 0 := by
  unfold doneF
  rw [List.take_succ_eq_append_getElem hk, List.count_append]
  have e : order.getD k 0 = order[k] := by simp [hk]
  rw [e] at h0 ⊢
  congr 1
  rw [List.count_singleton]
  by_cases h : order[k].toNat = q
  · have : order[k] = (q : Int) := by omega
    simp [this]
  · have : ¬ order[k] = (q : Int) := by omega
    simp [this, h]
theorem doneF_zero (order : List Int) (q : Nat) : doneF order 0 q = 0 := by simp [doneF]
/-- An execution stays below the stamps that there are. -/
theorem run_le {ps : List Pr} {S : Nat → List (List Int)} (hm : ∀ p, ¬ Rdy ps (lenS S) p) {order : List Int} {k : Nat} (hk : k ≤ order.length) (hr : RunOk ps order k) : ∀ q, doneF order k q ≤ (S q).length := by
  induction k with
  | zero => intro q; rw [doneF_zero]; omega
  | succ k ih =>
    have hr' : RunOk ps order k := fun j hj => hr j (by omega)
    have hi := ih (by omega) hr'
    obtain ⟨h0, hrd⟩ := hr k (by omega)
    intro q
    rw [doneF_succ (by omega) h0]
    split
    · rename_i e
      subst e
      have h1 := hi (order.getD k 0).toNat
      by_cases he : doneF order k (order.getD k 0).toNat = (S (order.getD k 0).toNat).length
      · exact absurd (hrd.mono hi he.symm) (hm _)
      · omega
    · have := hi q; omega
/-- What is executed has stamps that count only what is executed. -/
theorem run_bound {ps : List Pr} {S : Nat → List (List Int)} (hg : Gen ps S) (hm : ∀ p, ¬ Rdy ps (lenS S) p) {order : List Int} {k : Nat} (hk : k ≤ order.length) (hr : RunOk ps order k) :
    ∀ q i, i < doneF order k q → ∀ j, 0 ≤ (stOf S q i).getD j 0 ∧ (stOf S q i).getD j 0 ≤ doneF order k j := by
  induction k with
  | zero => intro q i hi; rw [doneF_zero] at hi; omega
  | succ k ih =>
    have hr' : RunOk ps order k := fun j hj => hr j (by omega)
    have hi := ih (by omega) hr'
    have hle := run_le hm (by omega) hr'
    have hle1 := run_le hm hk hr
    obtain ⟨h0, hrd⟩ := hr k (by omega)
    intro q i hq j
    have hsj := doneF_succ (by omega : k < order.length) h0 j
    by_cases hold : i < doneF order k q
    · have := hi q i hold j
      rw [hsj]; split <;> omega
    · have hsq := doneF_succ (by omega : k < order.length) h0 q
      have hlt : i < (S q).length := by have := hle1 q; omega
      rw [hsq] at hq
      by_cases e : (order.getD k 0).toNat = q
      · rw [if_pos e] at hq
        subst e
        have ei : i = doneF order k (order.getD k 0).toNat := by omega
        subst ei
        rw [(hg.eqn _ _ hlt).2.2.1]
        have hb := vecV_bound (ps := ps) (S := S) (p := (order.getD k 0).toNat) (k := doneF order k (order.getD k 0).toNat) (B := fun j => (doneF order k j : Int)) (fun j => by simp)
          (fun hn => ⟨(hg.bound _ _ (by omega)).1, hi _ _ (by omega)⟩) (fun h3 => by
            have h4 := hrd.2.2 h3
            have h5 := hle (sndr ps (evq ps (order.getD k 0).toNat (doneF order k (order.getD k 0).toNat)).msg).1.toNat
            exact ⟨(hg.bound _ _ (by omega)).1, hi _ _ (by omega)⟩)
        have := hb.2.2.2 j
        rw [hsj]
        split at this <;> simp_all <;> omega
      · rw [if_neg e] at hq; omega
end Go.AL
