/- What the generic functions of Go's library on slices return. -/
import Derived.Test.YtkfkdmefabefkaaWDt
namespace Go.AL
open Go Go.RowKit
set_option maxRecDepth 4000
theorem ints_cloneO (l : List Int) (hl : l.length ≤ 1000000) : MCalls Go.Proofs.Try.prog 18 [aInts l] [] fun r L => AppSt 3 1 (l.map ai) r L := by
  refine MCalls.enter' 8 [.tmp 2] [] Go.Proofs.Try.func18 rfl rfl rfl rfl rfl (by simp) (AWp.of ?_); simp only [go_sem]
  repeat (first | ((with_reducible refine AWp.ofC ?_ ?_); (focus exact rfl); simp only [go_sem]) | ((with_reducible refine And.intro ?_ ?_); focus first | exact True.intro | omega | (intros; (with_reducible and_intros) <;> first | (with_reducible assumption) | omega; done)))
  intro b hb
  repeat (first | ((with_reducible refine AWp.ofC ?_ ?_); (focus exact rfl); simp only [go_sem]) | ((with_reducible refine And.intro ?_ ?_); focus first | exact True.intro | omega | (intros; (with_reducible and_intros) <;> first | (with_reducible assumption) | omega; done)))
  refine ⟨fun ht => ?_, fun hf => ?_⟩
  · have : l = [] := by
      by_cases h : l = []
      · exact h
      · rw [hb (by simpa using h)] at ht; cases ht
    subst this
    repeat (first | ((with_reducible refine AWp.ofC ?_ ?_); (focus exact rfl); simp only [go_sem]) | ((with_reducible refine And.intro ?_ ?_); focus first | exact True.intro | omega | (intros; (with_reducible and_intros) <;> first | (with_reducible assumption) | omega; done)))
    refine ret_own ?_
    simp only [go_sem]
    exact .nil
  · repeat (first | ((with_reducible refine AWp.ofC ?_ ?_); (focus exact rfl); simp only [go_sem]) | ((with_reducible refine And.intro ?_ ?_); focus first | exact True.intro | omega | (intros; (with_reducible and_intros) <;> first | (with_reducible assumption) | omega; done)))
    intros
    repeat ((with_reducible refine And.intro ?_ ?_); focus first | exact True.intro | omega | (intros; (with_reducible and_intros) <;> first | (with_reducible assumption) | omega; done) | (simp; done) | (simp; omega))
    intros
    repeat (first | ((with_reducible refine AWp.ofC ?_ ?_); (focus exact rfl); simp only [go_sem]) | ((with_reducible refine And.intro ?_ ?_); focus first | exact True.intro | omega | (intros; (with_reducible and_intros) <;> first | (with_reducible assumption) | omega; done)))
    refine ret_own ?_
    simp only [go_sem]
    have e : l.length = (l.map ai).length := by simp
    rw [e]; exact .row _ _ _
theorem ints_indexFunc (l : List Int) (hl : l.length ≤ 1000000) (g : AV) (hgf : fo g = (True, g)) (p : Int → Bool) (hg : ∀ x ∈ l, PV Go.Proofs.Try.prog g [ai x] (ab (p x))) :
    PC Go.Proofs.Try.prog 33 [aInts l, g] (ai (match l.findIdx? p with | some i => (i : Int) | none => -1)) := by
  refine PC.enter 19 [.tmp 4] [] Go.Proofs.Try.func33 rfl rfl rfl rfl rfl (by simp) (AWp.of ?_); simp only [go_sem]
  repeat ((with_reducible refine And.intro ?_ ?_); focus first | exact True.intro | omega | (intros; (with_reducible and_intros) <;> first | (with_reducible assumption) | omega; done) | (simp; done) | (simp; omega))
  refine AWp.of ?_; simp only [go_sem, aInts]
  refine AWp.range' l.length [] [0, 1, 7] (fun k vs L => L = [] ∧ ∀ i (h : i < l.length), i < k → p l[i] = false) (by omega) rfl rfl rfl ⟨rfl, by omega⟩ ?_ ?_
  · rintro k vs L' hk hvs ⟨rfl, hI⟩
    simp only [go_sem]
    repeat ((with_reducible refine And.intro ?_ ?_); focus first | exact True.intro | omega | (intros; (with_reducible and_intros) <;> first | (with_reducible assumption) | omega; done) | (simp; done) | (simp; omega))
    refine AWp.of ?_; simp only [go_sem]
    have hgk := hg l[k] (List.getElem_mem hk)
    try simp only [go_sem, ai] at hgk
    repeat ((with_reducible refine And.intro ?_ ?_); focus first | exact True.intro | omega | (intros; (with_reducible and_intros) <;> first | (with_reducible assumption) | omega; done) | (simp; done) | (simp; omega))
    refine AWp.of ?_; simp only [go_sem, getD_map hk, hgf, ai]
    refine ⟨⟨by omega, by omega⟩, hk, hgk.use (AWp.of ?_)⟩; simp only [go_sem]
    refine ⟨fun ht => ?_, fun hf => ?_⟩
    · repeat ((with_reducible refine And.intro ?_ ?_); focus first | exact True.intro | omega | (intros; (with_reducible and_intros) <;> first | (with_reducible assumption) | omega; done) | (simp; done) | (simp; omega))
      refine AWp.of ?_; simp only [go_sem]
      refine ret_eq ?_; simp only [go_sem]
      have : l.findIdx? p = some k := by rw [List.findIdx?_eq_some_iff_getElem]; exact ⟨hk, ht, fun j hj => by simpa using hI j (by omega) hj⟩
      rw [this]
    · refine ⟨[], List.Sublist.refl _, rfl, fun i h hi => ?_⟩
      by_cases e : i = k
      · subst e; exact hf
      · exact hI i h (by omega)
  · rintro vs L' hvs ⟨rfl, hI⟩
    simp only [go_sem]
    repeat ((with_reducible refine And.intro ?_ ?_); focus first | exact True.intro | omega | (intros; (with_reducible and_intros) <;> first | (with_reducible assumption) | omega; done) | (simp; done) | (simp; omega))
    refine AWp.of ?_; simp only [go_sem]
    repeat ((with_reducible refine And.intro ?_ ?_); focus first | exact True.intro | omega | (intros; (with_reducible and_intros) <;> first | (with_reducible assumption) | omega; done) | (simp; done) | (simp; omega))
    refine AWp.of ?_; simp only [go_sem]
    refine ret_eq ?_; simp only [go_sem]
    have : l.findIdx? p = none := by rw [List.findIdx?_eq_none_iff]; intro x hx; obtain ⟨i, hi, rfl⟩ := List.getElem_of_mem hx; exact hI i hi hi
    rw [this]
theorem ints_containsFunc (l : List Int) (hl : l.length ≤ 1000000) (g : AV) (hgf : fo g = (True, g)) (p : Int → Bool) (hg : ∀ x ∈ l, PV Go.Proofs.Try.prog g [ai x] (ab (p x))) :
    PC Go.Proofs.Try.prog 16 [aInts l, g] (ab (l.any p)) := by
  refine PC.enter 9 [.tmp 4] [] Go.Proofs.Try.func16 rfl rfl rfl rfl rfl (by simp) (AWp.of ?_); simp only [go_sem]
  repeat ((with_reducible refine And.intro ?_ ?_); focus first | exact True.intro | omega | (intros; (with_reducible and_intros) <;> first | (with_reducible assumption) | omega; done) | (simp; done) | (simp; omega))
  refine AWp.of ?_; simp only [go_sem, hgf, aInts]
  refine (ints_indexFunc l hl g hgf p hg).val.use ?_
  simp only [go_sem]
  repeat ((with_reducible refine And.intro ?_ ?_); focus first | exact True.intro | omega | (intros; (with_reducible and_intros) <;> first | (with_reducible assumption) | omega; done) | (simp; done) | (simp; omega))
  refine AWp.of ?_; simp only [go_sem]
  refine ret_eq ?_; simp only [go_sem]
  congr 2; exact findIdx_any l p
theorem ints_clone (l : List Int) (hl : l.length ≤ 1000000) : PC Go.Proofs.Try.prog 18 [aInts l] (aInts l) := by
  refine PC.enter 8 [.tmp 2] [] Go.Proofs.Try.func18 rfl rfl rfl rfl rfl (by simp) (AWp.of ?_); simp only [go_sem]
  repeat ((with_reducible refine And.intro ?_ ?_); focus first | exact True.intro | omega | (intros; (with_reducible and_intros) <;> first | (with_reducible assumption) | omega; done) | (simp; done) | (simp; omega))
  refine AWp.of ?_; simp only [go_sem, aInts]
  intro b hb
  repeat ((with_reducible refine And.intro ?_ ?_); focus first | exact True.intro | omega | (intros; (with_reducible and_intros) <;> first | (with_reducible assumption) | omega; done) | (simp; done) | (simp; omega))
  refine AWp.of ?_; simp only [go_sem]
  refine ⟨fun ht => ?_, fun hf => ?_⟩
  · have : l = [] := by
      by_cases h : l = []
      · exact h
      · rw [hb (by simpa using h)] at ht; cases ht
    subst this
    repeat ((with_reducible refine And.intro ?_ ?_); focus first | exact True.intro | omega | (intros; (with_reducible and_intros) <;> first | (with_reducible assumption) | omega; done) | (simp; done) | (simp; omega))
    refine AWp.of ?_; simp only [go_sem]
    refine ret_view [] ?_; simp only [go_sem]
    exact .nil _
  · repeat ((with_reducible refine And.intro ?_ ?_); focus first | exact True.intro | omega | (intros; (with_reducible and_intros) <;> first | (with_reducible assumption) | omega; done) | (simp; done) | (simp; omega))
    refine AWp.of ?_; simp only [go_sem]
    refine fun _ => ⟨by omega, fun b' cap' hc => AWp.of ?_⟩; simp only [go_sem]
    refine ret_view [true] ?_; simp only [go_sem]
    exact Vw.ofLs (if_pos rfl) (by simp)
theorem rows_indexFunc (l : List (List Int)) (hl : l.length ≤ 1000000) (g : AV) (hgf : fo g = (True, g)) (p : (List Int) → Bool) (hg : ∀ x ∈ l, PV Go.Proofs.Try.prog g [aInts x] (ab (p x))) :
    PC Go.Proofs.Try.prog 22 [aRows l, g] (ai (match l.findIdx? p with | some i => (i : Int) | none => -1)) := by
  refine PC.enter 19 [.tmp 4] [] Go.Proofs.Try.func22 rfl rfl rfl rfl rfl (by simp) (AWp.of ?_); simp only [go_sem]
  repeat ((with_reducible refine And.intro ?_ ?_); focus first | exact True.intro | omega | (intros; (with_reducible and_intros) <;> first | (with_reducible assumption) | omega; done) | (simp; done) | (simp; omega))
  refine AWp.of ?_; simp only [go_sem, aRows]
  refine AWp.range' l.length [] [0, 1, 7] (fun k vs L => L = [] ∧ ∀ i (h : i < l.length), i < k → p l[i] = false) (by omega) rfl rfl rfl ⟨rfl, by omega⟩ ?_ ?_
  · rintro k vs L' hk hvs ⟨rfl, hI⟩
    simp only [go_sem]
    repeat ((with_reducible refine And.intro ?_ ?_); focus first | exact True.intro | omega | (intros; (with_reducible and_intros) <;> first | (with_reducible assumption) | omega; done) | (simp; done) | (simp; omega))
    refine AWp.of ?_; simp only [go_sem]
    have hgk := hg l[k] (List.getElem_mem hk)
    try simp only [go_sem, aInts] at hgk
    repeat ((with_reducible refine And.intro ?_ ?_); focus first | exact True.intro | omega | (intros; (with_reducible and_intros) <;> first | (with_reducible assumption) | omega; done) | (simp; done) | (simp; omega))
    refine AWp.of ?_; simp only [go_sem, getD_map hk, hgf, aInts]
    refine ⟨⟨by omega, by omega⟩, hk, hgk.use (AWp.of ?_)⟩; simp only [go_sem]
    refine ⟨fun ht => ?_, fun hf => ?_⟩
    · repeat ((with_reducible refine And.intro ?_ ?_); focus first | exact True.intro | omega | (intros; (with_reducible and_intros) <;> first | (with_reducible assumption) | omega; done) | (simp; done) | (simp; omega))
      refine AWp.of ?_; simp only [go_sem]
      refine ret_eq ?_; simp only [go_sem]
      have : l.findIdx? p = some k := by rw [List.findIdx?_eq_some_iff_getElem]; exact ⟨hk, ht, fun j hj => by simpa using hI j (by omega) hj⟩
      rw [this]
    · refine ⟨[], List.Sublist.refl _, rfl, fun i h hi => ?_⟩
      by_cases e : i = k
      · subst e; exact hf
      · exact hI i h (by omega)
  · rintro vs L' hvs ⟨rfl, hI⟩
    simp only [go_sem]
    repeat ((with_reducible refine And.intro ?_ ?_); focus first | exact True.intro | omega | (intros; (with_reducible and_intros) <;> first | (with_reducible assumption) | omega; done) | (simp; done) | (simp; omega))
    refine AWp.of ?_; simp only [go_sem]
    repeat ((with_reducible refine And.intro ?_ ?_); focus first | exact True.intro | omega | (intros; (with_reducible and_intros) <;> first | (with_reducible assumption) | omega; done) | (simp; done) | (simp; omega))
    refine AWp.of ?_; simp only [go_sem]
    refine ret_eq ?_; simp only [go_sem]
    have : l.findIdx? p = none := by rw [List.findIdx?_eq_none_iff]; intro x hx; obtain ⟨i, hi, rfl⟩ := List.getElem_of_mem hx; exact hI i hi hi
    rw [this]
theorem rows_containsFunc (l : List (List Int)) (hl : l.length ≤ 1000000) (g : AV) (hgf : fo g = (True, g)) (p : (List Int) → Bool) (hg : ∀ x ∈ l, PV Go.Proofs.Try.prog g [aInts x] (ab (p x))) :
    PC Go.Proofs.Try.prog 6 [aRows l, g] (ab (l.any p)) := by
  refine PC.enter 9 [.tmp 4] [] Go.Proofs.Try.func6 rfl rfl rfl rfl rfl (by simp) (AWp.of ?_); simp only [go_sem]
  repeat ((with_reducible refine And.intro ?_ ?_); focus first | exact True.intro | omega | (intros; (with_reducible and_intros) <;> first | (with_reducible assumption) | omega; done) | (simp; done) | (simp; omega))
  refine AWp.of ?_; simp only [go_sem, hgf, aRows]
  refine (rows_indexFunc l hl g hgf p hg).val.use ?_
  simp only [go_sem]
  repeat ((with_reducible refine And.intro ?_ ?_); focus first | exact True.intro | omega | (intros; (with_reducible and_intros) <;> first | (with_reducible assumption) | omega; done) | (simp; done) | (simp; omega))
  refine AWp.of ?_; simp only [go_sem]
  refine ret_eq ?_; simp only [go_sem]
  congr 2; exact findIdx_any l p
theorem procs_indexFunc (l : List Pr) (hl : l.length ≤ 1000000) (g : AV) (hgf : fo g = (True, g)) (p : Pr → Bool) (hg : ∀ x ∈ l, PV Go.Proofs.Try.prog g [aPr x] (ab (p x))) :
    PC Go.Proofs.Try.prog 43 [aPrs l, g] (ai (match l.findIdx? p with | some i => (i : Int) | none => -1)) := by
  refine PC.enter 19 [.tmp 4] [] Go.Proofs.Try.func43 rfl rfl rfl rfl rfl (by simp) (AWp.of ?_); simp only [go_sem]
  repeat ((with_reducible refine And.intro ?_ ?_); focus first | exact True.intro | omega | (intros; (with_reducible and_intros) <;> first | (with_reducible assumption) | omega; done) | (simp; done) | (simp; omega))
  refine AWp.of ?_; simp only [go_sem, aPrs]
  refine AWp.range' l.length [] [0, 1, 7] (fun k vs L => L = [] ∧ ∀ i (h : i < l.length), i < k → p l[i] = false) (by omega) rfl rfl rfl ⟨rfl, by omega⟩ ?_ ?_
  · rintro k vs L' hk hvs ⟨rfl, hI⟩
    simp only [go_sem]
    repeat ((with_reducible refine And.intro ?_ ?_); focus first | exact True.intro | omega | (intros; (with_reducible and_intros) <;> first | (with_reducible assumption) | omega; done) | (simp; done) | (simp; omega))
    refine AWp.of ?_; simp only [go_sem]
    have hgk := hg l[k] (List.getElem_mem hk)
    try simp only [go_sem, aPr] at hgk
    repeat ((with_reducible refine And.intro ?_ ?_); focus first | exact True.intro | omega | (intros; (with_reducible and_intros) <;> first | (with_reducible assumption) | omega; done) | (simp; done) | (simp; omega))
    refine AWp.of ?_; simp only [go_sem, getD_map hk, hgf, aPr]
    refine ⟨⟨by omega, by omega⟩, hk, hgk.use (AWp.of ?_)⟩; simp only [go_sem]
    refine ⟨fun ht => ?_, fun hf => ?_⟩
    · repeat ((with_reducible refine And.intro ?_ ?_); focus first | exact True.intro | omega | (intros; (with_reducible and_intros) <;> first | (with_reducible assumption) | omega; done) | (simp; done) | (simp; omega))
      refine AWp.of ?_; simp only [go_sem]
      refine ret_eq ?_; simp only [go_sem]
      have : l.findIdx? p = some k := by rw [List.findIdx?_eq_some_iff_getElem]; exact ⟨hk, ht, fun j hj => by simpa using hI j (by omega) hj⟩
      rw [this]
    · refine ⟨[], List.Sublist.refl _, rfl, fun i h hi => ?_⟩
      by_cases e : i = k
      · subst e; exact hf
      · exact hI i h (by omega)
  · rintro vs L' hvs ⟨rfl, hI⟩
    simp only [go_sem]
    repeat ((with_reducible refine And.intro ?_ ?_); focus first | exact True.intro | omega | (intros; (with_reducible and_intros) <;> first | (with_reducible assumption) | omega; done) | (simp; done) | (simp; omega))
    refine AWp.of ?_; simp only [go_sem]
    repeat ((with_reducible refine And.intro ?_ ?_); focus first | exact True.intro | omega | (intros; (with_reducible and_intros) <;> first | (with_reducible assumption) | omega; done) | (simp; done) | (simp; omega))
    refine AWp.of ?_; simp only [go_sem]
    refine ret_eq ?_; simp only [go_sem]
    have : l.findIdx? p = none := by rw [List.findIdx?_eq_none_iff]; intro x hx; obtain ⟨i, hi, rfl⟩ := List.getElem_of_mem hx; exact hI i hi hi
    rw [this]
theorem procs_containsFunc (l : List Pr) (hl : l.length ≤ 1000000) (g : AV) (hgf : fo g = (True, g)) (p : Pr → Bool) (hg : ∀ x ∈ l, PV Go.Proofs.Try.prog g [aPr x] (ab (p x))) :
    PC Go.Proofs.Try.prog 29 [aPrs l, g] (ab (l.any p)) := by
  refine PC.enter 9 [.tmp 4] [] Go.Proofs.Try.func29 rfl rfl rfl rfl rfl (by simp) (AWp.of ?_); simp only [go_sem]
  repeat ((with_reducible refine And.intro ?_ ?_); focus first | exact True.intro | omega | (intros; (with_reducible and_intros) <;> first | (with_reducible assumption) | omega; done) | (simp; done) | (simp; omega))
  refine AWp.of ?_; simp only [go_sem, hgf, aPrs]
  refine (procs_indexFunc l hl g hgf p hg).val.use ?_
  simp only [go_sem]
  repeat ((with_reducible refine And.intro ?_ ?_); focus first | exact True.intro | omega | (intros; (with_reducible and_intros) <;> first | (with_reducible assumption) | omega; done) | (simp; done) | (simp; omega))
  refine AWp.of ?_; simp only [go_sem]
  refine ret_eq ?_; simp only [go_sem]
  congr 2; exact findIdx_any l p
theorem events_indexFunc (l : List Ev) (hl : l.length ≤ 1000000) (g : AV) (hgf : fo g = (True, g)) (p : Ev → Bool) (hg : ∀ x ∈ l, PV Go.Proofs.Try.prog g [aEv x] (ab (p x))) :
    PC Go.Proofs.Try.prog 44 [aEvs l, g] (ai (match l.findIdx? p with | some i => (i : Int) | none => -1)) := by
  refine PC.enter 19 [.tmp 4] [] Go.Proofs.Try.func44 rfl rfl rfl rfl rfl (by simp) (AWp.of ?_); simp only [go_sem]
  repeat ((with_reducible refine And.intro ?_ ?_); focus first | exact True.intro | omega | (intros; (with_reducible and_intros) <;> first | (with_reducible assumption) | omega; done) | (simp; done) | (simp; omega))
  refine AWp.of ?_; simp only [go_sem, aEvs]
  refine AWp.range' l.length [] [0, 1, 7] (fun k vs L => L = [] ∧ ∀ i (h : i < l.length), i < k → p l[i] = false) (by omega) rfl rfl rfl ⟨rfl, by omega⟩ ?_ ?_
  · rintro k vs L' hk hvs ⟨rfl, hI⟩
    simp only [go_sem]
    repeat ((with_reducible refine And.intro ?_ ?_); focus first | exact True.intro | omega | (intros; (with_reducible and_intros) <;> first | (with_reducible assumption) | omega; done) | (simp; done) | (simp; omega))
    refine AWp.of ?_; simp only [go_sem]
    have hgk := hg l[k] (List.getElem_mem hk)
    try simp only [go_sem, aEv] at hgk
    repeat ((with_reducible refine And.intro ?_ ?_); focus first | exact True.intro | omega | (intros; (with_reducible and_intros) <;> first | (with_reducible assumption) | omega; done) | (simp; done) | (simp; omega))
    refine AWp.of ?_; simp only [go_sem, getD_map hk, hgf, aEv]
    refine ⟨⟨by omega, by omega⟩, hk, hgk.use (AWp.of ?_)⟩; simp only [go_sem]
    refine ⟨fun ht => ?_, fun hf => ?_⟩
    · repeat ((with_reducible refine And.intro ?_ ?_); focus first | exact True.intro | omega | (intros; (with_reducible and_intros) <;> first | (with_reducible assumption) | omega; done) | (simp; done) | (simp; omega))
      refine AWp.of ?_; simp only [go_sem]
      refine ret_eq ?_; simp only [go_sem]
      have : l.findIdx? p = some k := by rw [List.findIdx?_eq_some_iff_getElem]; exact ⟨hk, ht, fun j hj => by simpa using hI j (by omega) hj⟩
      rw [this]
    · refine ⟨[], List.Sublist.refl _, rfl, fun i h hi => ?_⟩
      by_cases e : i = k
      · subst e; exact hf
      · exact hI i h (by omega)
  · rintro vs L' hvs ⟨rfl, hI⟩
    simp only [go_sem]
    repeat ((with_reducible refine And.intro ?_ ?_); focus first | exact True.intro | omega | (intros; (with_reducible and_intros) <;> first | (with_reducible assumption) | omega; done) | (simp; done) | (simp; omega))
    refine AWp.of ?_; simp only [go_sem]
    repeat ((with_reducible refine And.intro ?_ ?_); focus first | exact True.intro | omega | (intros; (with_reducible and_intros) <;> first | (with_reducible assumption) | omega; done) | (simp; done) | (simp; omega))
    refine AWp.of ?_; simp only [go_sem]
    refine ret_eq ?_; simp only [go_sem]
    have : l.findIdx? p = none := by rw [List.findIdx?_eq_none_iff]; intro x hx; obtain ⟨i, hi, rfl⟩ := List.getElem_of_mem hx; exact hI i hi hi
    rw [this]
theorem events_containsFunc (l : List Ev) (hl : l.length ≤ 1000000) (g : AV) (hgf : fo g = (True, g)) (p : Ev → Bool) (hg : ∀ x ∈ l, PV Go.Proofs.Try.prog g [aEv x] (ab (p x))) :
    PC Go.Proofs.Try.prog 31 [aEvs l, g] (ab (l.any p)) := by
  refine PC.enter 9 [.tmp 4] [] Go.Proofs.Try.func31 rfl rfl rfl rfl rfl (by simp) (AWp.of ?_); simp only [go_sem]
  repeat ((with_reducible refine And.intro ?_ ?_); focus first | exact True.intro | omega | (intros; (with_reducible and_intros) <;> first | (with_reducible assumption) | omega; done) | (simp; done) | (simp; omega))
  refine AWp.of ?_; simp only [go_sem, hgf, aEvs]
  refine (events_indexFunc l hl g hgf p hg).val.use ?_
  simp only [go_sem]
  repeat ((with_reducible refine And.intro ?_ ?_); focus first | exact True.intro | omega | (intros; (with_reducible and_intros) <;> first | (with_reducible assumption) | omega; done) | (simp; done) | (simp; omega))
  refine AWp.of ?_; simp only [go_sem]
  refine ret_eq ?_; simp only [go_sem]
  congr 2; exact findIdx_any l p
theorem vars_indexFunc (l : List (ByteArray × Int)) (hl : l.length ≤ 1000000) (g : AV) (hgf : fo g = (True, g)) (p : (ByteArray × Int) → Bool) (hg : ∀ x ∈ l, PV Go.Proofs.Try.prog g [aVar x] (ab (p x))) :
    PC Go.Proofs.Try.prog 81 [aVars l, g] (ai (match l.findIdx? p with | some i => (i : Int) | none => -1)) := by
  refine PC.enter 19 [.tmp 4] [] Go.Proofs.Try.func81 rfl rfl rfl rfl rfl (by simp) (AWp.of ?_); simp only [go_sem]
  repeat ((with_reducible refine And.intro ?_ ?_); focus first | exact True.intro | omega | (intros; (with_reducible and_intros) <;> first | (with_reducible assumption) | omega; done) | (simp; done) | (simp; omega))
  refine AWp.of ?_; simp only [go_sem, aVars]
  refine AWp.range' l.length [] [0, 1, 7] (fun k vs L => L = [] ∧ ∀ i (h : i < l.length), i < k → p l[i] = false) (by omega) rfl rfl rfl ⟨rfl, by omega⟩ ?_ ?_
  · rintro k vs L' hk hvs ⟨rfl, hI⟩
    simp only [go_sem]
    repeat ((with_reducible refine And.intro ?_ ?_); focus first | exact True.intro | omega | (intros; (with_reducible and_intros) <;> first | (with_reducible assumption) | omega; done) | (simp; done) | (simp; omega))
    refine AWp.of ?_; simp only [go_sem]
    have hgk := hg l[k] (List.getElem_mem hk)
    try simp only [go_sem, aVar] at hgk
    repeat ((with_reducible refine And.intro ?_ ?_); focus first | exact True.intro | omega | (intros; (with_reducible and_intros) <;> first | (with_reducible assumption) | omega; done) | (simp; done) | (simp; omega))
    refine AWp.of ?_; simp only [go_sem, getD_map hk, hgf, aVar]
    refine ⟨⟨by omega, by omega⟩, hk, hgk.use (AWp.of ?_)⟩; simp only [go_sem]
    refine ⟨fun ht => ?_, fun hf => ?_⟩
    · repeat ((with_reducible refine And.intro ?_ ?_); focus first | exact True.intro | omega | (intros; (with_reducible and_intros) <;> first | (with_reducible assumption) | omega; done) | (simp; done) | (simp; omega))
      refine AWp.of ?_; simp only [go_sem]
      refine ret_eq ?_; simp only [go_sem]
      have : l.findIdx? p = some k := by rw [List.findIdx?_eq_some_iff_getElem]; exact ⟨hk, ht, fun j hj => by simpa using hI j (by omega) hj⟩
      rw [this]
    · refine ⟨[], List.Sublist.refl _, rfl, fun i h hi => ?_⟩
      by_cases e : i = k
      · subst e; exact hf
      · exact hI i h (by omega)
  · rintro vs L' hvs ⟨rfl, hI⟩
    simp only [go_sem]
    repeat ((with_reducible refine And.intro ?_ ?_); focus first | exact True.intro | omega | (intros; (with_reducible and_intros) <;> first | (with_reducible assumption) | omega; done) | (simp; done) | (simp; omega))
    refine AWp.of ?_; simp only [go_sem]
    repeat ((with_reducible refine And.intro ?_ ?_); focus first | exact True.intro | omega | (intros; (with_reducible and_intros) <;> first | (with_reducible assumption) | omega; done) | (simp; done) | (simp; omega))
    refine AWp.of ?_; simp only [go_sem]
    refine ret_eq ?_; simp only [go_sem]
    have : l.findIdx? p = none := by rw [List.findIdx?_eq_none_iff]; intro x hx; obtain ⟨i, hi, rfl⟩ := List.getElem_of_mem hx; exact hI i hi hi
    rw [this]
theorem vars_containsFunc (l : List (ByteArray × Int)) (hl : l.length ≤ 1000000) (g : AV) (hgf : fo g = (True, g)) (p : (ByteArray × Int) → Bool) (hg : ∀ x ∈ l, PV Go.Proofs.Try.prog g [aVar x] (ab (p x))) :
    PC Go.Proofs.Try.prog 69 [aVars l, g] (ab (l.any p)) := by
  refine PC.enter 9 [.tmp 4] [] Go.Proofs.Try.func69 rfl rfl rfl rfl rfl (by simp) (AWp.of ?_); simp only [go_sem]
  repeat ((with_reducible refine And.intro ?_ ?_); focus first | exact True.intro | omega | (intros; (with_reducible and_intros) <;> first | (with_reducible assumption) | omega; done) | (simp; done) | (simp; omega))
  refine AWp.of ?_; simp only [go_sem, hgf, aVars]
  refine (vars_indexFunc l hl g hgf p hg).val.use ?_
  simp only [go_sem]
  repeat ((with_reducible refine And.intro ?_ ?_); focus first | exact True.intro | omega | (intros; (with_reducible and_intros) <;> first | (with_reducible assumption) | omega; done) | (simp; done) | (simp; omega))
  refine AWp.of ?_; simp only [go_sem]
  refine ret_eq ?_; simp only [go_sem]
  congr 2; exact findIdx_any l p
theorem asgs_indexFunc (l : List (Int × Int)) (hl : l.length ≤ 1000000) (g : AV) (hgf : fo g = (True, g)) (p : (Int × Int) → Bool) (hg : ∀ x ∈ l, PV Go.Proofs.Try.prog g [aAsg x] (ab (p x))) :
    PC Go.Proofs.Try.prog 82 [aAsgs l, g] (ai (match l.findIdx? p with | some i => (i : Int) | none => -1)) := by
  refine PC.enter 19 [.tmp 4] [] Go.Proofs.Try.func82 rfl rfl rfl rfl rfl (by simp) (AWp.of ?_); simp only [go_sem]
  repeat ((with_reducible refine And.intro ?_ ?_); focus first | exact True.intro | omega | (intros; (with_reducible and_intros) <;> first | (with_reducible assumption) | omega; done) | (simp; done) | (simp; omega))
  refine AWp.of ?_; simp only [go_sem, aAsgs]
  refine AWp.range' l.length [] [0, 1, 7] (fun k vs L => L = [] ∧ ∀ i (h : i < l.length), i < k → p l[i] = false) (by omega) rfl rfl rfl ⟨rfl, by omega⟩ ?_ ?_
  · rintro k vs L' hk hvs ⟨rfl, hI⟩
    simp only [go_sem]
    repeat ((with_reducible refine And.intro ?_ ?_); focus first | exact True.intro | omega | (intros; (with_reducible and_intros) <;> first | (with_reducible assumption) | omega; done) | (simp; done) | (simp; omega))
    refine AWp.of ?_; simp only [go_sem]
    have hgk := hg l[k] (List.getElem_mem hk)
    try simp only [go_sem, aAsg] at hgk
    repeat ((with_reducible refine And.intro ?_ ?_); focus first | exact True.intro | omega | (intros; (with_reducible and_intros) <;> first | (with_reducible assumption) | omega; done) | (simp; done) | (simp; omega))
    refine AWp.of ?_; simp only [go_sem, getD_map hk, hgf, aAsg]
    refine ⟨⟨by omega, by omega⟩, hk, hgk.use (AWp.of ?_)⟩; simp only [go_sem]
    refine ⟨fun ht => ?_, fun hf => ?_⟩
    · repeat ((with_reducible refine And.intro ?_ ?_); focus first | exact True.intro | omega | (intros; (with_reducible and_intros) <;> first | (with_reducible assumption) | omega; done) | (simp; done) | (simp; omega))
      refine AWp.of ?_; simp only [go_sem]
      refine ret_eq ?_; simp only [go_sem]
      have : l.findIdx? p = some k := by rw [List.findIdx?_eq_some_iff_getElem]; exact ⟨hk, ht, fun j hj => by simpa using hI j (by omega) hj⟩
      rw [this]
    · refine ⟨[], List.Sublist.refl _, rfl, fun i h hi => ?_⟩
      by_cases e : i = k
      · subst e; exact hf
      · exact hI i h (by omega)
  · rintro vs L' hvs ⟨rfl, hI⟩
    simp only [go_sem]
    repeat ((with_reducible refine And.intro ?_ ?_); focus first | exact True.intro | omega | (intros; (with_reducible and_intros) <;> first | (with_reducible assumption) | omega; done) | (simp; done) | (simp; omega))
    refine AWp.of ?_; simp only [go_sem]
    repeat ((with_reducible refine And.intro ?_ ?_); focus first | exact True.intro | omega | (intros; (with_reducible and_intros) <;> first | (with_reducible assumption) | omega; done) | (simp; done) | (simp; omega))
    refine AWp.of ?_; simp only [go_sem]
    refine ret_eq ?_; simp only [go_sem]
    have : l.findIdx? p = none := by rw [List.findIdx?_eq_none_iff]; intro x hx; obtain ⟨i, hi, rfl⟩ := List.getElem_of_mem hx; exact hI i hi hi
    rw [this]
theorem asgs_containsFunc (l : List (Int × Int)) (hl : l.length ≤ 1000000) (g : AV) (hgf : fo g = (True, g)) (p : (Int × Int) → Bool) (hg : ∀ x ∈ l, PV Go.Proofs.Try.prog g [aAsg x] (ab (p x))) :
    PC Go.Proofs.Try.prog 73 [aAsgs l, g] (ab (l.any p)) := by
  refine PC.enter 9 [.tmp 4] [] Go.Proofs.Try.func73 rfl rfl rfl rfl rfl (by simp) (AWp.of ?_); simp only [go_sem]
  repeat ((with_reducible refine And.intro ?_ ?_); focus first | exact True.intro | omega | (intros; (with_reducible and_intros) <;> first | (with_reducible assumption) | omega; done) | (simp; done) | (simp; omega))
  refine AWp.of ?_; simp only [go_sem, hgf, aAsgs]
  refine (asgs_indexFunc l hl g hgf p hg).val.use ?_
  simp only [go_sem]
  repeat ((with_reducible refine And.intro ?_ ?_); focus first | exact True.intro | omega | (intros; (with_reducible and_intros) <;> first | (with_reducible assumption) | omega; done) | (simp; done) | (simp; omega))
  refine AWp.of ?_; simp only [go_sem]
  refine ret_eq ?_; simp only [go_sem]
  congr 2; exact findIdx_any l p
theorem asgs_clone (l : List (Int × Int)) (hl : l.length ≤ 1000000) : PC Go.Proofs.Try.prog 38 [aAsgs l] (aAsgs l) := by
  refine PC.enter 8 [.tmp 2] [] Go.Proofs.Try.func38 rfl rfl rfl rfl rfl (by simp) (AWp.of ?_); simp only [go_sem]
  repeat ((with_reducible refine And.intro ?_ ?_); focus first | exact True.intro | omega | (intros; (with_reducible and_intros) <;> first | (with_reducible assumption) | omega; done) | (simp; done) | (simp; omega))
  refine AWp.of ?_; simp only [go_sem, aAsgs]
  intro b hb
  repeat ((with_reducible refine And.intro ?_ ?_); focus first | exact True.intro | omega | (intros; (with_reducible and_intros) <;> first | (with_reducible assumption) | omega; done) | (simp; done) | (simp; omega))
  refine AWp.of ?_; simp only [go_sem]
  refine ⟨fun ht => ?_, fun hf => ?_⟩
  · have : l = [] := by
      by_cases h : l = []
      · exact h
      · rw [hb (by simpa using h)] at ht; cases ht
    subst this
    repeat ((with_reducible refine And.intro ?_ ?_); focus first | exact True.intro | omega | (intros; (with_reducible and_intros) <;> first | (with_reducible assumption) | omega; done) | (simp; done) | (simp; omega))
    refine AWp.of ?_; simp only [go_sem]
    refine ret_view [] ?_; simp only [go_sem]
    exact .nil _
  · repeat ((with_reducible refine And.intro ?_ ?_); focus first | exact True.intro | omega | (intros; (with_reducible and_intros) <;> first | (with_reducible assumption) | omega; done) | (simp; done) | (simp; omega))
    refine AWp.of ?_; simp only [go_sem]
    refine fun _ => ⟨by omega, fun b' cap' hc => AWp.of ?_⟩; simp only [go_sem]
    refine ret_view [true] ?_; simp only [go_sem]
    exact Vw.ofLs (if_pos rfl) (by simp)
end Go.AL
