/- Events of a trace in their order. No condition. -/
import Derived.Test.YtkfkdmefabefkaaWTr3
namespace Go.AL
open Go Go.RowKit
set_option maxRecDepth 4000
def evRow (p i : Nat) : List Ev → List (Eid × Ev)
  | [] => []
  | e :: r => (((p : Int), (i : Int) + 1), e) :: evRow p (i + 1) r
def evFrom (p : Nat) : List Pr → List (Eid × Ev)
  | [] => []
  | x :: r => evRow p 0 x.evs ++ evFrom (p + 1) r
/-- All events, with their places. -/
def evIds (ps : List Pr) : List (Eid × Ev) := evFrom 0 ps
def off (ps : List Pr) (p : Nat) : Nat := ((ps.take p).map fun x => x.evs.length).sum
theorem evRow_length (p i : Nat) (l : List Ev) : (evRow p i l).length = l.length := by
  induction l generalizing i with
  | nil => rfl
  | cons e r ih => simp [evRow, ih]
theorem evRow_get (p i : Nat) (l : List Ev) (k : Nat) : (evRow p i l)[k]? = (l[k]?).map fun e => (((p : Int), (i : Int) + k + 1), e) := by
  induction l generalizing i k with
  | nil => simp [evRow]
  | cons e r ih =>
    cases k with
    | zero => simp [evRow]
    | succ k =>
      simp only [evRow, List.getElem?_cons_succ, ih]
      cases r[k]? with
      | none => rfl
      | some e => simp; omega
theorem off_succ {ps : List Pr} {p : Nat} (hp : p < ps.length) : off ps (p + 1) = off ps p + ps[p].evs.length := by
  unfold off
  rw [List.take_succ_eq_append_getElem hp, List.map_append, List.sum_append]; rfl
theorem evFrom_get (q : Nat) (ps : List Pr) (p : Nat) (hp : p < ps.length) (i : Nat) (hi : i < ps[p].evs.length) : (evFrom q ps)[off ps p + i]? = some ((((q + p : Nat) : Int), (i : Int) + 1), ps[p].evs[i]) := by
  induction ps generalizing q p with
  | nil => simp at hp
  | cons x r ih =>
    cases p with
    | zero =>
      simp only [evFrom, off, List.take_zero, List.map_nil, List.sum_nil, Nat.zero_add]
      simp only [List.getElem_cons_zero] at hi
      rw [List.getElem?_append_left (by rw [evRow_length]; exact hi), evRow_get, List.getElem?_eq_getElem hi]
      simp
    | succ p =>
      simp only [List.getElem_cons_succ] at hi ⊢
      simp only [List.length_cons, Nat.add_lt_add_iff_right] at hp
      have h := ih (q + 1) p hp hi
      simp only [evFrom]
      rw [List.getElem?_append_right (by rw [evRow_length]; simp [off]; omega), evRow_length]
      have e : off (x :: r) (p + 1) + i - x.evs.length = off r p + i := by simp [off]; omega
      rw [e, h]
      congr 4; omega
theorem evIds_get {ps : List Pr} {p : Nat} (hp : p < ps.length) {i : Nat} (hi : i < ps[p].evs.length) : (evIds ps)[off ps p + i]? = some (((p : Int), (i : Int) + 1), ps[p].evs[i]) := by
  have := evFrom_get 0 ps p hp i hi
  simpa [evIds] using this
theorem evIds_length (ps : List Pr) : (evIds ps).length = off ps ps.length := by
  have : ∀ q, (evFrom q ps).length = off ps ps.length := by
    induction ps with
    | nil => intro q; rfl
    | cons x r ih => intro q; simp [evFrom, evRow_length, ih, off]
  exact this 0
theorem off_le {ps : List Pr} {p : Nat} (hp : p < ps.length) : off ps p + ps[p].evs.length ≤ off ps ps.length := by
  rw [← off_succ hp]
  unfold off
  rw [List.take_length]
  have h : ps = ps.take (p + 1) ++ ps.drop (p + 1) := (List.take_append_drop _ _).symm
  conv => rhs; rw [h]
  rw [List.map_append, List.sum_append]; omega
/-- Each event stands at one place. -/
theorem evIds_inv {ps : List Pr} {k : Nat} {x : Eid × Ev} (h : (evIds ps)[k]? = some x) : ∃ (p : Nat) (hp : p < ps.length) (i : Nat) (hi : i < ps[p].evs.length), k = off ps p + i ∧ x = (((p : Int), (i : Int) + 1), ps[p].evs[i]) := by
  have hk : k < off ps ps.length := by rw [← evIds_length]; exact (List.getElem?_eq_some_iff.1 h).1
  have key : ∀ n, n ≤ ps.length → k < off ps n → ∃ (p : Nat) (hp : p < ps.length) (i : Nat) (hi : i < ps[p].evs.length), k = off ps p + i := by
    intro n
    induction n with
    | zero => intro _ h; simp [off] at h
    | succ n ih =>
      intro hn hlt
      by_cases hc : k < off ps n
      · exact ih (by omega) hc
      · rw [off_succ (by omega)] at hlt
        exact ⟨n, by omega, k - off ps n, by omega, by omega⟩
  obtain ⟨p, hp, i, hi, rfl⟩ := key _ (Nat.le_refl _) hk
  rw [evIds_get hp hi] at h
  exact ⟨p, hp, i, hi, rfl, (Option.some.inj h).symm⟩
def evArgs (ps : List Pr) : List (List AV) := (evIds ps).map fun x => [aEid x.1, aEv x.2]
theorem evArgs_inv {ps : List Pr} {k : Nat} {x : List AV} (h : (evArgs ps)[k]? = some x) :
    ∃ (p : Nat) (hp : p < ps.length) (i : Nat) (hi : i < ps[p].evs.length), k = off ps p + i ∧ (evIds ps)[k]? = some (((p : Int), (i : Int) + 1), ps[p].evs[i]) ∧ x = [aEid (p, (i : Int) + 1), aEv ps[p].evs[i]] := by
  unfold evArgs at h
  rw [List.getElem?_map, Option.map_eq_some_iff] at h
  obtain ⟨a, ha, rfl⟩ := h
  obtain ⟨p, hp, i, hi, e1, rfl⟩ := evIds_inv ha
  exact ⟨p, hp, i, hi, e1, ha, rfl⟩
theorem trace_events (ps : List Pr) : PC Go.Proofs.Try.prog 58 [aTr ps] (.clo 71 [.rp 1 [aTr ps] 0 0]) := by
  refine PC.enter 4 [.tmp 2] [1] Go.Proofs.Try.func58 rfl rfl rfl rfl rfl (by simp) (AWp.of ?_); simp only [go_sem]
  repeat (first | ((with_reducible refine AWp.ofC ?_ ?_); (focus exact rfl); simp only [go_sem]) | ((with_reducible refine And.intro ?_ ?_); focus first | exact True.intro | omega | (intros; (with_reducible and_intros) <;> first | (with_reducible assumption) | omega; done)))
  refine ret_eq ?_; simp only [go_sem]
theorem trace_events1 (ps : List Pr) (hs : Sm ps) : IterC Go.Proofs.Try.prog (.clo 71 [.rp 1 [aTr ps] 0 0]) (evArgs ps) := by
  intro y L I S hy h0 step
  refine MCalls.clo ?_
  simp only [List.cons_append, List.nil_append]
  have hl := hs.procs
  have step' : ∀ (p : Nat) (hp : p < ps.length) (i : Nat) (hi : i < ps[p].evs.length) L', I (off ps p + i) L' → MVal Go.Proofs.Try.prog y [aEid (p, (i : Int) + 1), aEv ps[p].evs[i]] L' fun r L'' => (r = ab true ∧ I (off ps p + i + 1) L'') ∨ (r = ab false ∧ S L'') := fun p hp i hi L' hI => by
    refine step (off ps p + i) _ L' ?_ hI
    unfold evArgs; rw [List.getElem?_map, evIds_get hp hi]; rfl
  have hlen : (evArgs ps).length = off ps ps.length := by unfold evArgs; rw [List.length_map, evIds_length]
  rw [hlen]
  refine MCalls.enter' 33 [] [4, 6] Go.Proofs.Try.func71 rfl rfl rfl rfl rfl (by simp) (AWp.of ?_); simp only [go_sem]
  refine AWp.range' ps.length [] [0, 8, 9] (fun k vs L => I (off ps k) L) (by omega) rfl rfl rfl (by simpa [off] using h0) ?_ ?_
  · rintro p vs L' hp - hI
    have hm := List.getElem_mem hp
    have hel := hs.evs _ hm
    simp only [go_sem]
    repeat ((with_reducible refine And.intro ?_ ?_); focus first | exact True.intro | omega | (intros; (with_reducible and_intros) <;> first | (with_reducible assumption) | omega; done) | (simp; done) | (simp; omega))
    refine AWp.of ?_; simp only [go_sem, getD_map hp]
    repeat ((with_reducible refine And.intro ?_ ?_); focus first | exact True.intro | omega | (intros; (with_reducible and_intros) <;> first | (with_reducible assumption) | omega; done) | (simp; done) | (simp; omega))
    intros
    refine AWp.of ?_; simp only [go_sem]
    refine AWp.range' ps[p].evs.length [] [0, 3, 8, 9, 10, 16, 17] (fun k vs L => I (off ps p + k) L) (by omega) rfl rfl rfl hI ?_ ?_
    · rintro i vs L' hi - hI
      simp only [go_sem]
      repeat ((with_reducible refine And.intro ?_ ?_); focus first | exact True.intro | omega | (intros; (with_reducible and_intros) <;> first | (with_reducible assumption) | omega; done) | (simp; done) | (simp; omega))
      refine AWp.of ?_; simp only [go_sem, getD_map hi]
      repeat ((with_reducible refine And.intro ?_ ?_); focus first | exact True.intro | omega | (intros; (with_reducible and_intros) <;> first | (with_reducible assumption) | omega; done) | (simp; done) | (simp; omega))
      intros
      refine AWp.of ?_; simp only [go_sem, hy]
      repeat ((with_reducible refine And.intro ?_ ?_); focus first | exact True.intro | omega | (intros; (with_reducible and_intros) <;> first | (with_reducible assumption) | omega; done) | (simp; done) | (simp; omega))
      refine (step' p hp i hi L' hI).mono ?_
      rintro r L'' (⟨rfl, hI'⟩ | ⟨rfl, hS⟩)
      · simp only [go_sem]
        repeat (first | ((with_reducible refine AWp.ofC ?_ ?_); (focus exact rfl); simp only [go_sem]) | ((with_reducible refine And.intro ?_ ?_); focus first | exact True.intro | omega | (intros; (with_reducible and_intros) <;> first | (with_reducible assumption) | omega; done)))
        exact ⟨_, List.Sublist.refl _, hI'⟩
      · simp only [go_sem]
        repeat (first | ((with_reducible refine AWp.ofC ?_ ?_); (focus exact rfl); simp only [go_sem]) | ((with_reducible refine And.intro ?_ ?_); focus first | exact True.intro | omega | (intros; (with_reducible and_intros) <;> first | (with_reducible assumption) | omega; done)))
        refine ret_own ?_
        simp only [go_sem]
        exact .inr hS
    · rintro vs L' - hI
      simp only [go_sem]
      exact ⟨_, List.Sublist.refl _, by rw [off_succ hp]; exact hI⟩
  · rintro vs L' - hI
    simp only [go_sem]
    repeat (first | ((with_reducible refine AWp.ofC ?_ ?_); (focus exact rfl); simp only [go_sem]) | ((with_reducible refine And.intro ?_ ?_); focus first | exact True.intro | omega | (intros; (with_reducible and_intros) <;> first | (with_reducible assumption) | omega; done)))
    refine ret_own ?_
    simp only [go_sem]
    exact .inl hI
end Go.AL
