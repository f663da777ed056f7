/- The package cut: what is given, what is missing. No condition. -/
import Derived.Test.YtkfkdmefabefkaaWFlt
namespace Go.AL
open Go Go.RowKit
set_option maxRecDepth 4000
noncomputable def findV (ps : List Pr) (kind m : Int) : Eid := if validF ps then findIn (evIds ps) kind m else (0, 0)
theorem findIn_none {l : List (Eid × Ev)} {kind m : Int} (h : ∀ x ∈ l, ¬ (x.2.kind = kind ∧ x.2.msg = m)) : findIn l kind m = (0, 0) := by
  unfold findIn
  have : l.find? (fun x => decide (x.2.kind = kind) && decide (x.2.msg = m)) = none := by
    rw [List.find?_eq_none]; intro x hx; simpa using h x hx
  rw [this]
theorem findIn_hit {l : List (Eid × Ev)} {kind m : Int} {k : Nat} {x : Eid × Ev} (hx : l[k]? = some x) (h0 : ∀ (j : Nat) (y : Eid × Ev), j < k → l[j]? = some y → ¬ (y.2.kind = kind ∧ y.2.msg = m)) (h : x.2.kind = kind ∧ x.2.msg = m) : findIn l kind m = x.1 := by
  unfold findIn
  obtain ⟨hk, he⟩ := List.getElem?_eq_some_iff.1 hx
  have : l.find? (fun x => decide (x.2.kind = kind) && decide (x.2.msg = m)) = some x := by
    rw [List.find?_eq_some_iff_getElem]
    exact ⟨by simpa using h, k, hk, he, fun j hj => by
      have := h0 j _ hj (List.getElem?_eq_getElem (by omega))
      simp only [Bool.not_eq_true', Bool.and_eq_false_iff, decide_eq_false_iff_not]
      exact Classical.not_and_iff_not_or_not.1 this⟩
  rw [this]
theorem trace_find (ps : List Pr) (hs : Sm ps) (kind m : Int) : PC Go.Proofs.Try.prog 53 [aTr ps, ai kind, ai m] (.tup [aEid (findV ps kind m), ab (decide (0 < (findV ps kind m).2))]) := by
  refine PC.enter 30 [.cell 6 81, .cell 7 4] [3, 4, 5, 8, 9] Go.Proofs.Try.func53 rfl rfl rfl rfl rfl (by simp) (AWp.of ?_); simp only [go_sem]
  intro b6
  intro b7 h7
  have n67 : ¬ b6 = b7 := by omega
  have n76 : ¬ b7 = b6 := by omega
  repeat ((with_reducible refine And.intro ?_ ?_); focus first | exact True.intro | omega | (intros; (with_reducible and_intros) <;> first | (with_reducible assumption) | omega; done) | (simp; done) | (simp; omega))
  refine AWp.of ?_; simp only [go_sem, n67, n76]
  repeat ((with_reducible refine And.intro ?_ ?_); focus first | exact True.intro | omega | (intros; (with_reducible and_intros) <;> first | (with_reducible assumption) | omega; done) | (simp; done) | (simp; omega))
  refine (trace_Valid ps hs).val.use ?_; simp only [go_sem]
  repeat (first | ((with_reducible refine AWp.ofC ?_ ?_); (focus exact rfl); simp only [go_sem, n67, n76]) | ((with_reducible refine And.intro ?_ ?_); focus first | exact True.intro | omega | (intros; (with_reducible and_intros) <;> first | (with_reducible assumption) | omega; done)))
  refine ⟨fun h1 => ?_, fun h1 => ?_⟩
  · repeat (first | ((with_reducible refine AWp.ofC ?_ ?_); (focus exact rfl); simp only [go_sem, n67, n76]) | ((with_reducible refine And.intro ?_ ?_); focus first | exact True.intro | omega | (intros; (with_reducible and_intros) <;> first | (with_reducible assumption) | omega; done)))
    have hf : findV ps kind m = (0, 0) := by unfold findV; rw [h1]; rfl
    rw [hf]
    refine ret_eq ?_
    simp only [go_sem, n67, n76]
    rfl
  · repeat (first | ((with_reducible refine AWp.ofC ?_ ?_); (focus exact rfl); simp only [go_sem]) | ((with_reducible refine And.intro ?_ ?_); focus first | exact True.intro | omega | (intros; (with_reducible and_intros) <;> first | (with_reducible assumption) | omega; done)))
    have hf : findV ps kind m = findIn (evIds ps) kind m := by unfold findV; rw [h1]; rfl
    repeat ((with_reducible refine And.intro ?_ ?_); focus first | exact True.intro | omega | (intros; (with_reducible and_intros) <;> first | (with_reducible assumption) | omega; done) | (simp; done) | (simp; omega))
    refine (trace_events ps).val.use ?_; simp only [go_sem]
    refine AWp.block (AWp.rangeFunc rfl [4, 5, 6, 7] (evArgs ps) (fun k L => L = [(b7, .row 4 1 [ab false] 1), (b6, .row 81 2 [aEid (0, 0)] 1)] ∧ ∀ (j : Nat) (y : Eid × Ev), j < k → (evIds ps)[j]? = some y → ¬ (y.2.kind = kind ∧ y.2.msg = m))
      (fun e L => e = .ret ∧ 0 < (findIn (evIds ps) kind m).2 ∧ L = [(b7, .row 4 1 [ab true] 1), (b6, .row 81 2 [aEid (findIn (evIds ps) kind m)] 1)])
      rfl (trace_events1 ps hs) (fun x hx => by obtain ⟨k, hk⟩ := List.getElem?_of_mem hx; obtain ⟨_, _, _, _, _, _, rfl⟩ := evArgs_inv hk; rfl) ⟨by simp [aEid], by omega⟩ ?_ ?_ ?_)
    · rintro k x L' l hx ⟨rfl, hI⟩
      obtain ⟨p, hp, i, hi, hk, hev, rfl⟩ := evArgs_inv hx
      simp only [go_sem]
      repeat ((with_reducible refine And.intro ?_ ?_); focus first | exact True.intro | omega | (intros; (with_reducible and_intros) <;> first | (with_reducible assumption) | omega; done) | (simp; done) | (simp; omega))
      refine AWp.of ?_; simp only [go_sem]
      repeat ((with_reducible refine And.intro ?_ ?_); focus first | exact True.intro | omega | (intros; (with_reducible and_intros) <;> first | (with_reducible assumption) | omega; done) | (simp; done) | (simp; omega))
      intros
      refine AWp.of ?_; simp only [go_sem]
      repeat ((with_reducible refine And.intro ?_ ?_); focus first | exact True.intro | omega | (intros; (with_reducible and_intros) <;> first | (with_reducible assumption) | omega; done) | (simp; done) | (simp; omega))
      intros
      refine AWp.of ?_; simp only [go_sem]
      repeat (first | ((with_reducible refine AWp.ofC ?_ ?_); (focus exact rfl); simp only [go_sem, n67, n76]) | ((with_reducible refine And.intro ?_ ?_); focus first | exact True.intro | omega | (intros; (with_reducible and_intros) <;> first | (with_reducible assumption) | omega; done)))
      refine ⟨fun h2 h3 => ?_, fun h2 => ?_⟩
      · repeat (first | ((with_reducible refine AWp.ofC ?_ ?_); (focus exact rfl); simp only [go_sem, n67, n76]) | ((with_reducible refine And.intro ?_ ?_); focus first | exact True.intro | omega | (intros; (with_reducible and_intros) <;> first | (with_reducible assumption) | omega; done)))
        have := findIn_hit hev hI ⟨h2, h3⟩
        refine ⟨_, List.Sublist.refl _, ?_, ?_⟩
        · rw [this]; show (0 : Int) < (i : Int) + 1; omega
        · rw [this]
      · refine ⟨_, List.Sublist.refl _, rfl, fun j y hj hy => ?_⟩
        by_cases e : j = k
        · subst e; rw [hev] at hy; cases hy; rintro ⟨h3, h4⟩; exact h2 h3 h4
        · exact hI j y (by omega) hy
    · rintro L' ⟨rfl, hI⟩
      have h0 := findIn_none (l := evIds ps) (kind := kind) (m := m) (fun x hx => by
        obtain ⟨j, hj⟩ := List.getElem?_of_mem hx
        exact hI j x (by unfold evArgs; rw [List.length_map]; exact (List.getElem?_eq_some_iff.1 hj).1) hj)
      simp only [go_sem]
      repeat (first | ((with_reducible refine AWp.ofC ?_ ?_); (focus exact rfl); simp only [go_sem, n67, n76]) | ((with_reducible refine And.intro ?_ ?_); focus first | exact True.intro | omega | (intros; (with_reducible and_intros) <;> first | (with_reducible assumption) | omega; done)))
      rw [hf, h0]
      refine ret_eq ?_
      simp only [go_sem, n67, n76]
      rfl
    · rintro e L' ⟨he, hpos, rfl⟩
      subst he
      show retK _ _ _ _ _
      rw [hf, decide_eq_true hpos]
      refine ret_eq ?_
      simp only [go_sem, n67, n76]
theorem trace_Sender (ps : List Pr) (hs : Sm ps) (m : Int) : PC Go.Proofs.Try.prog 47 [aTr ps, ai m] (.tup [aEid (findV ps 2 m), ab (decide (0 < (findV ps 2 m).2))]) := by
  refine PC.enter 11 [.cell 4 81, .tmp 5] [2] Go.Proofs.Try.func47 rfl rfl rfl rfl rfl (by simp) (AWp.of ?_); simp only [go_sem]
  intro b4
  repeat ((with_reducible refine And.intro ?_ ?_); focus first | exact True.intro | omega | (intros; (with_reducible and_intros) <;> first | (with_reducible assumption) | omega; done) | (simp; done) | (simp; omega))
  refine AWp.of ?_; simp only [go_sem]
  repeat ((with_reducible refine And.intro ?_ ?_); focus first | exact True.intro | omega | (intros; (with_reducible and_intros) <;> first | (with_reducible assumption) | omega; done) | (simp; done) | (simp; omega))
  refine (trace_find ps hs 2 m).val.use ?_; simp only [go_sem]
  repeat (first | ((with_reducible refine AWp.ofC ?_ ?_); (focus exact rfl); simp only [go_sem]) | ((with_reducible refine And.intro ?_ ?_); focus first | exact True.intro | omega | (intros; (with_reducible and_intros) <;> first | (with_reducible assumption) | omega; done)))
  refine ret_eq ?_; simp only [go_sem]
theorem cut_process (ps : List Pr) (p : Int) : PC Go.Proofs.Try.prog 64 [aTr ps, ai p] (ab (decide (0 ≤ p) && decide (p < ps.length))) := by
  refine PC.enter 14 [.tmp 4] [2] Go.Proofs.Try.func64 rfl rfl rfl rfl rfl (by simp) (AWp.of ?_); simp only [go_sem]
  repeat (first | ((with_reducible refine AWp.ofC ?_ ?_); (focus exact rfl); simp only [go_sem]) | ((with_reducible refine And.intro ?_ ?_); focus first | exact True.intro | omega | (intros; (with_reducible and_intros) <;> first | (with_reducible assumption) | omega; done)))
  refine ret_eq ?_; simp only [go_sem]
/-- Whether counts are in range. -/
def cntOk (ps : List Pr) (c : List Int) (p : Nat) : Bool :=
  match ps[p]?, c[p]? with
  | some x, some n => decide (0 ≤ n) && decide (n ≤ x.evs.length)
  | _, _ => true
def inRangeF (ps : List Pr) (c : List Int) : Bool := (List.range c.length).all (cntOk ps c)
theorem cut_inRange (ps : List Pr) (hs : Sm ps) (c : List Int) (hc : c.length = ps.length) : PC Go.Proofs.Try.prog 63 [aTr ps, aInts c] (ab (inRangeF ps c)) := by
  have hl := hs.procs
  refine PC.enter 28 [.tmp 4] [2] Go.Proofs.Try.func63 rfl rfl rfl rfl rfl (by simp) (AWp.of ?_); simp only [go_sem]
  repeat ((with_reducible refine And.intro ?_ ?_); focus first | exact True.intro | omega | (intros; (with_reducible and_intros) <;> first | (with_reducible assumption) | omega; done) | (simp; done) | (simp; omega))
  refine AWp.of ?_; simp only [go_sem]
  refine AWp.range' c.length [] [2, 7, 8] (fun k vs L => L = [] ∧ ∀ j, j < k → cntOk ps c j = true) (by omega) rfl rfl rfl ⟨rfl, by omega⟩ ?_ ?_
  · rintro k vs L' hk - ⟨rfl, hI⟩
    have hkp : k < ps.length := by omega
    have e : cntOk ps c k = (decide (0 ≤ c[k]) && decide (c[k] ≤ ps[k].evs.length)) := by simp only [cntOk, List.getElem?_eq_getElem hk, List.getElem?_eq_getElem hkp]
    simp only [go_sem]
    repeat (first | ((with_reducible refine AWp.ofC ?_ ?_); (focus exact rfl); simp only [go_sem, getD_map hk, getD_map hkp]) | ((with_reducible refine And.intro ?_ ?_); focus first | exact True.intro | omega | (intros; (with_reducible and_intros) <;> first | (with_reducible assumption) | omega; done)))
    refine ⟨fun h1 => ?_, fun h1 h2 => ?_⟩
    · repeat (first | ((with_reducible refine AWp.ofC ?_ ?_); (focus exact rfl); simp only [go_sem]) | ((with_reducible refine And.intro ?_ ?_); focus first | exact True.intro | omega | (intros; (with_reducible and_intros) <;> first | (with_reducible assumption) | omega; done)))
      refine ret_eq ?_; simp only [go_sem]
      have e2 : cntOk ps c k = false := by
        rw [e]; rcases h1 with h1 | h1
        · rw [decide_eq_false (by omega)]; rfl
        · rw [decide_eq_false (p := c[k] ≤ (ps[k].evs.length : Int)) (by omega), Bool.and_false]
      congr 2; symm
      unfold inRangeF; rw [List.all_eq_false]
      exact ⟨k, List.mem_range.2 hk, by simp [e2]⟩
    · refine ⟨_, List.Sublist.refl _, rfl, fun j hj => ?_⟩
      by_cases ej : j = k
      · rw [ej, e]; simp; omega
      · exact hI j (by omega)
  · rintro vs L' - ⟨rfl, hI⟩
    simp only [go_sem]
    repeat (first | ((with_reducible refine AWp.ofC ?_ ?_); (focus exact rfl); simp only [go_sem]) | ((with_reducible refine And.intro ?_ ?_); focus first | exact True.intro | omega | (intros; (with_reducible and_intros) <;> first | (with_reducible assumption) | omega; done)))
    refine ret_eq ?_; simp only [go_sem]
    congr 2; symm
    unfold inRangeF; rw [List.all_eq_true]
    exact fun j hj => hI j (List.mem_range.1 hj)
theorem cut_sized1 (ps : List Pr) (c : List Int) : PC Go.Proofs.Try.prog 77 [aInts c, .rp 1 [aTr ps] 0 0] (ab (!decide (c.length = ps.length))) := by
  refine PC.enter 10 [.tmp 3] [] Go.Proofs.Try.func77 rfl rfl rfl rfl rfl (by simp) (AWp.of ?_); simp only [go_sem]
  repeat (first | ((with_reducible refine AWp.ofC ?_ ?_); (focus exact rfl); simp only [go_sem]) | ((with_reducible refine And.intro ?_ ?_); focus first | exact True.intro | omega | (intros; (with_reducible and_intros) <;> first | (with_reducible assumption) | omega; done)))
  refine ret_eq ?_; simp only [go_sem]
  congr 2; simp only [Int.natCast_inj]
noncomputable def sizedF (ps : List Pr) (l : List (List Int)) : Bool := validF ps && !l.any fun c => !decide (c.length = ps.length)
theorem cut_sized (ps : List Pr) (hs : Sm ps) (l : List (List Int)) (hl : l.length ≤ 1000000) : PC Go.Proofs.Try.prog 62 [aTr ps, aRows l] (ab (sizedF ps l)) := by
  refine PC.enter 13 [.tmp 4] [2] Go.Proofs.Try.func62 rfl rfl rfl rfl rfl (by simp) (AWp.of ?_); simp only [go_sem]
  repeat (first | ((with_reducible refine AWp.ofC ?_ ?_); (focus exact rfl); simp only [go_sem]) | ((with_reducible refine And.intro ?_ ?_); focus first | exact True.intro | omega | (intros; (with_reducible and_intros) <;> first | (with_reducible assumption) | omega; done)))
  repeat ((with_reducible refine And.intro ?_ ?_); focus first | exact True.intro | omega | (intros; (with_reducible and_intros) <;> first | (with_reducible assumption) | omega; done) | (simp; done) | (simp; omega))
  refine (trace_Valid ps hs).val.use ?_; simp only [go_sem]
  repeat ((with_reducible refine And.intro ?_ ?_); focus first | exact True.intro | omega | (intros; (with_reducible and_intros) <;> first | (with_reducible assumption) | omega; done) | (simp; done) | (simp; omega))
  refine GCall.use (ab (l.any fun c => !decide (c.length = ps.length))) (fun _ => ⟨(by first | exact True.intro | omega | (intros; (with_reducible and_intros) <;> first | (with_reducible assumption) | omega) | (simp; done) | (simp; omega) | (intros; simp_all; done) | (intros; simp_all; omega)), (rows_containsFunc l hl (.clo 77 [.rp 1 [aTr ps] 0 0]) rfl (fun c => !decide (c.length = ps.length)) fun c _ => (cut_sized1 ps c).clo).val.use ⟨rfl, rfl⟩⟩) ?_; simp only [go_sem]
  repeat (first | ((with_reducible refine AWp.ofC ?_ ?_); (focus exact rfl); simp only [go_sem]) | ((with_reducible refine And.intro ?_ ?_); focus first | exact True.intro | omega | (intros; (with_reducible and_intros) <;> first | (with_reducible assumption) | omega; done)))
  refine ret_eq ?_; simp only [go_sem]
  rfl
end Go.AL
