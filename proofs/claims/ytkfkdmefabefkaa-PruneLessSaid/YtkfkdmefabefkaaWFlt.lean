/- The package trace, last part: Fault and Valid. No condition. -/
import Derived.Test.YtkfkdmefabefkaaWCy2
namespace Go.AL
open Go Go.RowKit
set_option maxRecDepth 4000
def evAt (ps : List Pr) (x : Eid) : Int := evF ps x.1.toNat (x.2 - 1).toNat
def evFirst (ps : List Pr) : Option (Eid × Int) := ((evIds ps).find? (fun x => evAt ps x.1 != 0)).map fun x => (x.1, evAt ps x.1)
def procFirst (ps : List Pr) : Option (Eid × Int) := ((List.range ps.length).find? (fun p => procF ps p != 0)).map fun (p : Nat) => (((p : Int), 0), procF ps p)
noncomputable def faultF (ps : List Pr) : Eid × Int :=
  if !inI ps.length 1 8 then ((0, 0), 1) else
  match procFirst ps with
  | some x => x
  | none => match evFirst ps with
    | some x => x
    | none => match msgF ps with
      | some x => x
      | none => match cycF ps with
        | some id => (id, 10)
        | none => ((0, 0), 0)
theorem procFirst_hit {ps : List Pr} {k : Nat} (hk : k < ps.length) (h0 : ∀ j, j < k → procF ps j = 0) (h : procF ps k ≠ 0) : procFirst ps = some (((k : Int), 0), procF ps k) := by
  have : (List.range ps.length).find? (fun p => procF ps p != 0) = some k := by
    rw [List.find?_range_eq_some]
    exact ⟨by simpa using h, by simpa using hk, fun j hj => by simpa using h0 j hj⟩
  unfold procFirst; rw [this]; rfl
theorem procFirst_none {ps : List Pr} (h : ∀ j, j < ps.length → procF ps j = 0) : procFirst ps = none := by
  have : (List.range ps.length).find? (fun p => procF ps p != 0) = none := by
    rw [List.find?_eq_none]; intro i hi; simpa using h i (List.mem_range.1 hi)
  unfold procFirst; rw [this]; rfl
theorem evFirst_hit {ps : List Pr} {k : Nat} {x : Eid × Ev} (hx : (evIds ps)[k]? = some x) (h0 : ∀ (j : Nat) (y : Eid × Ev), j < k → (evIds ps)[j]? = some y → evAt ps y.1 = 0) (h : evAt ps x.1 ≠ 0) : evFirst ps = some (x.1, evAt ps x.1) := by
  obtain ⟨hk, he⟩ := List.getElem?_eq_some_iff.1 hx
  have : (evIds ps).find? (fun x => evAt ps x.1 != 0) = some x := by
    rw [List.find?_eq_some_iff_getElem]
    exact ⟨by simpa using h, k, hk, he, fun j hj => by simpa using h0 j _ hj (List.getElem?_eq_getElem (by omega))⟩
  unfold evFirst; rw [this]; rfl
theorem evFirst_none {ps : List Pr} (h : ∀ (j : Nat) (y : Eid × Ev), (evIds ps)[j]? = some y → evAt ps y.1 = 0) : evFirst ps = none := by
  have : (evIds ps).find? (fun x => evAt ps x.1 != 0) = none := by
    rw [List.find?_eq_none]
    intro y hy
    obtain ⟨j, hj⟩ := List.getElem?_of_mem hy
    simpa using h j y hj
  unfold evFirst; rw [this]; rfl
theorem evFirst_get {ps : List Pr} (h : evFirst ps = none) {p : Nat} (hp : p < ps.length) {i : Nat} (hi : i < ps[p].evs.length) : evF ps p i = 0 := by
  unfold evFirst at h
  rw [Option.map_eq_none_iff, List.find?_eq_none] at h
  have := h _ (List.mem_of_getElem? (evIds_get hp hi))
  simpa [evAt, show ((i : Int) + 1 - 1).toNat = i by omega] using this
theorem formed_of_evFirst {ps : List Pr} (h : evFirst ps = none) : Formed ps := by
  intro p hp e he
  obtain ⟨i, hi, rfl⟩ := List.getElem_of_mem he
  have h0 := evFirst_get h hp hi
  unfold evF at h0
  simp only [List.getElem?_eq_getElem hp, List.getElem?_eq_getElem hi] at h0
  split at h0
  · cases h0
  · rename_i hn; simpa using hn
def aFault (x : Eid × Int) : AV := .tup [aEid x.1, ai x.2]
attribute [go_sem] aFault
theorem trace_Fault (ps : List Pr) (hs : Sm ps) : PC Go.Proofs.Try.prog 51 [aTr ps] (aFault (faultF ps)) := by
  have hl := hs.procs
  refine PC.enter 66 [.cell 2 81, .cell 3 27] [1, 6, 7, 10, 12] Go.Proofs.Try.func51 rfl rfl rfl rfl rfl (by simp) (AWp.of ?_); simp only [go_sem]
  intro b2
  intro b3 h3
  have n23 : ¬ b2 = b3 := by omega
  repeat ((with_reducible refine And.intro ?_ ?_); focus first | exact True.intro | omega | (intros; (with_reducible and_intros) <;> first | (with_reducible assumption) | omega; done) | (simp; done) | (simp; omega))
  refine AWp.of ?_; simp only [go_sem, n23]
  repeat ((with_reducible refine And.intro ?_ ?_); focus first | exact True.intro | omega | (intros; (with_reducible and_intros) <;> first | (with_reducible assumption) | omega; done) | (simp; done) | (simp; omega))
  refine (trace_in _ _ _).val.use ?_; simp only [go_sem]
  repeat (first | ((with_reducible refine AWp.ofC ?_ ?_); (focus exact rfl); simp only [go_sem, n23]) | ((with_reducible refine And.intro ?_ ?_); focus first | exact True.intro | omega | (intros; (with_reducible and_intros) <;> first | (with_reducible assumption) | omega; done)))
  refine ⟨fun h1 => ?_, fun h1 => ?_⟩
  · repeat (first | ((with_reducible refine AWp.ofC ?_ ?_); (focus exact rfl); simp only [go_sem, n23]) | ((with_reducible refine And.intro ?_ ?_); focus first | exact True.intro | omega | (intros; (with_reducible and_intros) <;> first | (with_reducible assumption) | omega; done)))
    have hf : faultF ps = ((0, 0), 1) := by unfold faultF; rw [if_pos (by simp [h1])]
    rw [hf]
    refine ret_eq ?_
    simp only [go_sem, n23]
  · repeat (first | ((with_reducible refine AWp.ofC ?_ ?_); (focus exact rfl); simp only [go_sem]) | ((with_reducible refine And.intro ?_ ?_); focus first | exact True.intro | omega | (intros; (with_reducible and_intros) <;> first | (with_reducible assumption) | omega; done)))
    refine AWp.range' ps.length [] [1, 2, 3, 22] (fun k vs L => L = [(b3, .row 27 1 [ai 0] 1), (b2, .row 81 2 [aEid (0, 0)] 1)] ∧ ∀ j, j < k → procF ps j = 0) (by omega) rfl rfl rfl ⟨rfl, by omega⟩ ?_ ?_
    · rintro k vs L' hk - ⟨rfl, hI⟩
      simp only [go_sem]
      repeat ((with_reducible refine And.intro ?_ ?_); focus first | exact True.intro | omega | (intros; (with_reducible and_intros) <;> first | (with_reducible assumption) | omega; done) | (simp; done) | (simp; omega))
      refine AWp.of ?_; simp only [go_sem]
      repeat (first | ((with_reducible refine AWp.ofC ?_ ?_); (focus exact rfl); simp only [go_sem]) | ((with_reducible refine And.intro ?_ ?_); focus first | exact True.intro | omega | (intros; (with_reducible and_intros) <;> first | (with_reducible assumption) | omega; done)))
      repeat ((with_reducible refine And.intro ?_ ?_); focus first | exact True.intro | omega | (intros; (with_reducible and_intros) <;> first | (with_reducible assumption) | omega; done) | (simp; done) | (simp; omega))
      refine (trace_processFault ps hs k hk).val.use ?_; simp only [go_sem]
      repeat (first | ((with_reducible refine AWp.ofC ?_ ?_); (focus exact rfl); simp only [go_sem, n23]) | ((with_reducible refine And.intro ?_ ?_); focus first | exact True.intro | omega | (intros; (with_reducible and_intros) <;> first | (with_reducible assumption) | omega; done)))
      refine ⟨fun h2 => ?_, fun h2 => ?_⟩
      · repeat (first | ((with_reducible refine AWp.ofC ?_ ?_); (focus exact rfl); simp only [go_sem, n23]) | ((with_reducible refine And.intro ?_ ?_); focus first | exact True.intro | omega | (intros; (with_reducible and_intros) <;> first | (with_reducible assumption) | omega; done)))
        have hf : faultF ps = (((k : Int), 0), procF ps k) := by unfold faultF; rw [if_neg (by simp [h1]), procFirst_hit hk hI h2]
        rw [hf]
        refine ret_eq ?_
        simp only [go_sem, n23]
      · refine ⟨_, List.Sublist.refl _, rfl, fun j hj => ?_⟩
        by_cases e : j = k
        · rw [e]; exact h2
        · exact hI j (by omega)
    · rintro vs L' - ⟨rfl, hI⟩
      have hpf := procFirst_none hI
      simp only [go_sem]
      repeat ((with_reducible refine And.intro ?_ ?_); focus first | exact True.intro | omega | (intros; (with_reducible and_intros) <;> first | (with_reducible assumption) | omega; done) | (simp; done) | (simp; omega))
      refine AWp.of ?_; simp only [go_sem]
      repeat ((with_reducible refine And.intro ?_ ?_); focus first | exact True.intro | omega | (intros; (with_reducible and_intros) <;> first | (with_reducible assumption) | omega; done) | (simp; done) | (simp; omega))
      refine (trace_events ps).val.use ?_; simp only [go_sem]
      refine AWp.block (AWp.rangeFunc rfl [1, 2, 3] (evArgs ps) (fun k L => L = [(b3, .row 27 1 [ai 0] 1), (b2, .row 81 2 [aEid (0, 0)] 1)] ∧ ∀ (j : Nat) (y : Eid × Ev), j < k → (evIds ps)[j]? = some y → evAt ps y.1 = 0)
        (fun e L => e = .ret ∧ ∃ id n, evFirst ps = some (id, n) ∧ L = [(b3, .row 27 1 [ai n] 1), (b2, .row 81 2 [aEid id] 1)])
        rfl (trace_events1 ps hs) (fun x hx => by obtain ⟨k, hk⟩ := List.getElem?_of_mem hx; obtain ⟨_, _, _, _, _, _, rfl⟩ := evArgs_inv hk; rfl) ⟨by simp [aEid], by omega⟩ ?_ ?_ ?_)
      · rintro k x L' l hx ⟨rfl, hI⟩
        obtain ⟨p, hp, i, hi, hk, hev, rfl⟩ := evArgs_inv hx
        have hat : evAt ps ((p : Int), (i : Int) + 1) = evF ps p i := by simp only [evAt, Int.toNat_natCast, show ((i : Int) + 1 - 1).toNat = i by omega]
        simp only [go_sem]
        repeat ((with_reducible refine And.intro ?_ ?_); focus first | exact True.intro | omega | (intros; (with_reducible and_intros) <;> first | (with_reducible assumption) | omega; done) | (simp; done) | (simp; omega))
        refine AWp.of ?_; simp only [go_sem]
        repeat ((with_reducible refine And.intro ?_ ?_); focus first | exact True.intro | omega | (intros; (with_reducible and_intros) <;> first | (with_reducible assumption) | omega; done) | (simp; done) | (simp; omega))
        intros
        refine AWp.of ?_; simp only [go_sem]
        repeat ((with_reducible refine And.intro ?_ ?_); focus first | exact True.intro | omega | (intros; (with_reducible and_intros) <;> first | (with_reducible assumption) | omega; done) | (simp; done) | (simp; omega))
        intros
        refine AWp.of ?_; simp only [go_sem]
        repeat ((with_reducible refine And.intro ?_ ?_); focus first | exact True.intro | omega | (intros; (with_reducible and_intros) <;> first | (with_reducible assumption) | omega; done) | (simp; done) | (simp; omega))
        refine (trace_eventFault ps hs p hp i hi).val.use ?_; simp only [go_sem]
        repeat (first | ((with_reducible refine AWp.ofC ?_ ?_); (focus exact rfl); simp only [go_sem, n23]) | ((with_reducible refine And.intro ?_ ?_); focus first | exact True.intro | omega | (intros; (with_reducible and_intros) <;> first | (with_reducible assumption) | omega; done)))
        refine ⟨fun h2 => ?_, fun h2 => ?_⟩
        · repeat (first | ((with_reducible refine AWp.ofC ?_ ?_); (focus exact rfl); simp only [go_sem, n23]) | ((with_reducible refine And.intro ?_ ?_); focus first | exact True.intro | omega | (intros; (with_reducible and_intros) <;> first | (with_reducible assumption) | omega; done)))
          rw [← hat] at h2
          exact ⟨_, List.Sublist.refl _, _, _, evFirst_hit hev hI h2, by rw [hat]⟩
        · refine ⟨_, List.Sublist.refl _, rfl, fun j y hj hy => ?_⟩
          by_cases e : j = k
          · subst e; rw [hev] at hy; cases hy; rw [hat]; exact h2
          · exact hI j y (by omega) hy
      · rintro L' ⟨rfl, hI⟩
        have hef := evFirst_none (ps := ps) (fun j y hj => hI j y (by unfold evArgs; rw [List.length_map]; exact (List.getElem?_eq_some_iff.1 hj).1) hj)
        have hfm := formed_of_evFirst hef
        simp only [go_sem]
        repeat ((with_reducible refine And.intro ?_ ?_); focus first | exact True.intro | omega | (intros; (with_reducible and_intros) <;> first | (with_reducible assumption) | omega; done) | (simp; done) | (simp; omega))
        refine AWp.of ?_; simp only [go_sem]
        have hmf := trace_messageFault ps hs hfm
        have hcf := trace_cyclic ps hs hfm
        unfold aMsg at hmf
        cases hm : msgF ps with
        | some x =>
          obtain ⟨id, n⟩ := x
          rw [hm] at hmf
          have hn : n ≠ 0 := by
            unfold msgF at hm
            split at hm
            · rename_i k hk
              have := List.find?_some hk
              cases hm
              simpa using this
            · cases hm
          have hf : faultF ps = (id, n) := by unfold faultF; rw [if_neg (by simp [h1]), hpf, hef, hm]
          repeat ((with_reducible refine And.intro ?_ ?_); focus first | exact True.intro | omega | (intros; (with_reducible and_intros) <;> first | (with_reducible assumption) | omega; done) | (simp; done) | (simp; omega))
          refine (hmf).val.use ?_; simp only [go_sem]
          repeat ((with_reducible refine And.intro ?_ ?_); focus first | exact True.intro | omega | (intros; (with_reducible and_intros) <;> first | (with_reducible assumption) | omega; done) | (simp; done) | (simp; omega))
          intro b _ _
          repeat (first | ((with_reducible refine AWp.ofC ?_ ?_); (focus exact rfl); simp only [go_sem, n23, hn]) | ((with_reducible refine And.intro ?_ ?_); focus first | exact True.intro | omega | (intros; (with_reducible and_intros) <;> first | (with_reducible assumption) | omega; done)))
          rw [hf]
          refine ret_eq ?_
          simp only [go_sem, n23]
        | none =>
          rw [hm] at hmf
          repeat ((with_reducible refine And.intro ?_ ?_); focus first | exact True.intro | omega | (intros; (with_reducible and_intros) <;> first | (with_reducible assumption) | omega; done) | (simp; done) | (simp; omega))
          refine (hmf).val.use ?_; simp only [go_sem]
          repeat ((with_reducible refine And.intro ?_ ?_); focus first | exact True.intro | omega | (intros; (with_reducible and_intros) <;> first | (with_reducible assumption) | omega; done) | (simp; done) | (simp; omega))
          intro b _ _
          repeat (first | ((with_reducible refine AWp.ofC ?_ ?_); (focus exact rfl); simp only [go_sem]) | ((with_reducible refine And.intro ?_ ?_); focus first | exact True.intro | omega | (intros; (with_reducible and_intros) <;> first | (with_reducible assumption) | omega; done)))
          unfold aCyc at hcf
          cases hc : cycF ps with
          | some id =>
            rw [hc] at hcf
            have hf : faultF ps = (id, 10) := by unfold faultF; rw [if_neg (by simp [h1]), hpf, hef, hm, hc]
            repeat ((with_reducible refine And.intro ?_ ?_); focus first | exact True.intro | omega | (intros; (with_reducible and_intros) <;> first | (with_reducible assumption) | omega; done) | (simp; done) | (simp; omega))
            refine (hcf).val.use ?_; simp only [go_sem]
            repeat ((with_reducible refine And.intro ?_ ?_); focus first | exact True.intro | omega | (intros; (with_reducible and_intros) <;> first | (with_reducible assumption) | omega; done) | (simp; done) | (simp; omega))
            intro b _ _
            repeat (first | ((with_reducible refine AWp.ofC ?_ ?_); (focus exact rfl); simp only [go_sem, n23]) | ((with_reducible refine And.intro ?_ ?_); focus first | exact True.intro | omega | (intros; (with_reducible and_intros) <;> first | (with_reducible assumption) | omega; done)))
            rw [hf]
            refine ret_eq ?_
            simp only [go_sem, n23]
          | none =>
            rw [hc] at hcf
            have hf : faultF ps = ((0, 0), 0) := by unfold faultF; rw [if_neg (by simp [h1]), hpf, hef, hm, hc]
            repeat ((with_reducible refine And.intro ?_ ?_); focus first | exact True.intro | omega | (intros; (with_reducible and_intros) <;> first | (with_reducible assumption) | omega; done) | (simp; done) | (simp; omega))
            refine (hcf).val.use ?_; simp only [go_sem]
            repeat ((with_reducible refine And.intro ?_ ?_); focus first | exact True.intro | omega | (intros; (with_reducible and_intros) <;> first | (with_reducible assumption) | omega; done) | (simp; done) | (simp; omega))
            intro b _ _
            repeat (first | ((with_reducible refine AWp.ofC ?_ ?_); (focus exact rfl); simp only [go_sem, n23]) | ((with_reducible refine And.intro ?_ ?_); focus first | exact True.intro | omega | (intros; (with_reducible and_intros) <;> first | (with_reducible assumption) | omega; done)))
            rw [hf]
            refine ret_eq ?_
            simp only [go_sem, n23]
      · rintro e L' ⟨he, id, n, hc, rfl⟩
        subst he
        show retK _ _ _ _ _
        have hf : faultF ps = (id, n) := by unfold faultF; rw [if_neg (by simp [h1]), hpf, hc]
        rw [hf]
        refine ret_eq ?_
        simp only [go_sem, n23]
noncomputable def validF (ps : List Pr) : Bool := decide ((faultF ps).2 = 0)
theorem trace_Valid (ps : List Pr) (hs : Sm ps) : PC Go.Proofs.Try.prog 45 [aTr ps] (ab (validF ps)) := by
  refine PC.enter 12 [.tmp 2] [1, 3] Go.Proofs.Try.func45 rfl rfl rfl rfl rfl (by simp) (AWp.of ?_); simp only [go_sem]
  repeat (first | ((with_reducible refine AWp.ofC ?_ ?_); (focus exact rfl); simp only [go_sem]) | ((with_reducible refine And.intro ?_ ?_); focus first | exact True.intro | omega | (intros; (with_reducible and_intros) <;> first | (with_reducible assumption) | omega; done)))
  repeat ((with_reducible refine And.intro ?_ ?_); focus first | exact True.intro | omega | (intros; (with_reducible and_intros) <;> first | (with_reducible assumption) | omega; done) | (simp; done) | (simp; omega))
  refine (trace_Fault ps hs).val.use ?_; simp only [go_sem]
  repeat ((with_reducible refine And.intro ?_ ?_); focus first | exact True.intro | omega | (intros; (with_reducible and_intros) <;> first | (with_reducible assumption) | omega; done) | (simp; done) | (simp; omega))
  intros
  refine AWp.of ?_; simp only [go_sem]
  repeat (first | ((with_reducible refine AWp.ofC ?_ ?_); (focus exact rfl); simp only [go_sem]) | ((with_reducible refine And.intro ?_ ?_); focus first | exact True.intro | omega | (intros; (with_reducible and_intros) <;> first | (with_reducible assumption) | omega; done)))
  refine ret_eq ?_; simp only [go_sem]
  rfl
end Go.AL
