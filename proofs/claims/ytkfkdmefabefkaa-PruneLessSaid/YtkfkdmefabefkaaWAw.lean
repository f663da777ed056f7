/- The law of layer 49: awake. No condition. -/
import Derived.Test.YtkfkdmefabefkaaWDrop
namespace Go.AL
open Go Go.RowKit
set_option maxRecDepth 4000
theorem Reach.rank {ps : List Pr} {f : Eid → Int} (h : ∀ x, VEv ps x → ∀ y ∈ afterL ps x, f x < f y) {x y : Eid} (hr : Reach ps x y) (hx : VEv ps x) : f x < f y := by
  have key : f x < f y ∧ VEv ps y := by
    induction hr with
    | single hn => exact ⟨h _ hx _ hn, Reach.valid (.single hn) hx⟩
    | tail hr hn ih => exact ⟨Int.lt_trans ih.1 (h _ ih.2 _ hn), Reach.valid (.single hn) ih.2⟩
  exact key.1
/-- No cycle where a rank grows along the edges. -/
theorem cycF_rank {ps : List Pr} (f : Eid → Int) (h : ∀ x ∈ evIds ps, ∀ y ∈ afterL ps x.1, f x.1 < f y) : cycF ps = none := by
  have hv : ∀ x, VEv ps x → ∀ y ∈ afterL ps x, f x < f y := by
    rintro x ⟨p, hp, i, hi, rfl⟩ y hy
    exact h _ (List.mem_of_getElem? (evIds_get hp hi)) y hy
  refine cycF_none fun j y hj hr => ?_
  obtain ⟨p, hp, i, hi, _, rfl⟩ := evIds_inv hj
  exact Int.lt_irrefl _ (hr.rank hv ⟨p, hp, i, hi, rfl⟩)
theorem Vw.mkRp {L : AHeap} {xs xs' : List AV} {k i j : Nat} (h : Vws L xs xs') : Vw L (.rp k xs i j) (.rp k xs' i j) := .rp h.1 h.2
def psA : List Pr := [⟨⟨#[112]⟩, [], [⟨2, 1, 5, 0, []⟩]⟩, ⟨⟨#[113]⟩, [], [⟨3, 0, 5, 3, []⟩]⟩]
def psB : List Pr := [⟨⟨#[112]⟩, [], []⟩, ⟨⟨#[113]⟩, [], [⟨1, 0, 0, 3, []⟩]⟩]
theorem psA_valid : validF psA = true := by
  unfold validF faultF
  rw [if_neg (by decide), show procFirst psA = none from rfl, show evFirst psA = none from rfl, show msgF psA = none from rfl, cycF_rank (fun x => x.1) (by decide)]
  rfl
theorem psA_given : givenF psA [[1, 0]] [] = 0 := by
  unfold givenF sizedF
  rw [psA_valid]
  rfl
theorem psA_drop : dropF psA [1, 0] = psB := by rfl
theorem psA_sm : Sm psA := ⟨by decide, by decide, by decide, by decide⟩
theorem psB_sm : Sm psB := ⟨by decide, by decide, by decide, by decide⟩
theorem law49_awake : PC Go.Proofs.Try.prog 5 [] (ab true) := by
  have h1 := prune_Stable [[3, 1], [2, 4]] (by decide) (by decide)
  have h2 := prune_Kept [[3, 1], [2, 4]] (by decide) (by decide)
  have h3 := prune_Drop psA psA_sm [1, 0] (by decide)
  have e1 : aStable [[3, 1], [2, 4]] = .tup [aInts [2, 1], ai 0] := by rfl
  have e2 : aKept [[3, 1], [2, 4]] = .tup [ai 4, ai 0] := by rfl
  have e3 : aDrop psA [1, 0] = .tup [aTr psB, ai 0] := by unfold aDrop; rw [if_neg (by simp [psA_given]), psA_drop]
  rw [e1] at h1; rw [e2] at h2; rw [e3] at h3
  refine PC.enter 67 [.tmp 0] [6, 7, 9, 10, 11, 12, 24, 27, 29, 33, 39, 41, 47] Go.Proofs.Try.func5 rfl rfl rfl rfl rfl (by simp) (AWp.of ?_); simp only [go_sem]
  repeat (first | ((with_reducible refine AWp.ofC ?_ ?_); (focus exact rfl); simp only [go_sem]) | ((with_reducible refine And.intro ?_ ?_); focus first | exact True.intro | omega | (intros; (with_reducible and_intros) <;> first | (with_reducible assumption) | omega; done)))
  repeat ((with_reducible refine And.intro ?_ ?_); focus first | exact True.intro | omega | (intros; (with_reducible and_intros) <;> first | (with_reducible assumption) | omega; done) | (simp; done) | (simp; omega))
  refine (h1).val.use ?_; simp only [go_sem]
  repeat (first | ((with_reducible refine AWp.ofC ?_ ?_); (focus exact rfl); simp only [go_sem]) | ((with_reducible refine And.intro ?_ ?_); focus first | exact True.intro | omega | (intros; (with_reducible and_intros) <;> first | (with_reducible assumption) | omega; done)))
  repeat ((with_reducible refine And.intro ?_ ?_); focus first | exact True.intro | omega | (intros; (with_reducible and_intros) <;> first | (with_reducible assumption) | omega; done) | (simp; done) | (simp; omega))
  refine (h2).val.use ?_; simp only [go_sem]
  repeat (first | ((with_reducible refine AWp.ofC ?_ ?_); (focus exact rfl); simp only [go_sem]) | ((with_reducible refine And.intro ?_ ?_); focus first | exact True.intro | omega | (intros; (with_reducible and_intros) <;> first | (with_reducible assumption) | omega; done)))
  intro b6
  refine AWp.view [] [(6, .rp 1 [aTr psA] 0 0)] (LVw.refl _) ?_ ?_
  · intro p hp
    simp only [List.mem_singleton] at hp
    subst hp
    show Vw [] _ (.rp 1 [aTr psA] 0 0)
    simp only [go_sem]
    refine Vw.mkRp ?_
    repeat (first | exact Vw.refl _ | exact Vws.nil | exact Vw.nil _ | refine Vws.cons ?_ ?_ | refine Vw.mkAgg ?_ | refine Vw.mkSl ?_)
  simp only [go_sem]
  repeat ((with_reducible refine And.intro ?_ ?_); focus first | exact True.intro | omega | (intros; (with_reducible and_intros) <;> first | (with_reducible assumption) | omega; done) | (simp; done) | (simp; omega))
  refine AWp.of ?_; simp only [go_sem]
  repeat ((with_reducible refine And.intro ?_ ?_); focus first | exact True.intro | omega | (intros; (with_reducible and_intros) <;> first | (with_reducible assumption) | omega; done) | (simp; done) | (simp; omega))
  refine (h3).val.use ?_; simp only [go_sem]
  repeat (first | ((with_reducible refine AWp.ofC ?_ ?_); (focus exact rfl); simp only [go_sem]) | ((with_reducible refine And.intro ?_ ?_); focus first | exact True.intro | omega | (intros; (with_reducible and_intros) <;> first | (with_reducible assumption) | omega; done)))
  intro b7
  repeat (first | ((with_reducible refine AWp.ofC ?_ ?_); (focus exact rfl); simp only [go_sem]) | ((with_reducible refine And.intro ?_ ?_); focus first | exact True.intro | omega | (intros; (with_reducible and_intros) <;> first | (with_reducible assumption) | omega; done)))
  intro b9
  refine AWp.view [] [(9, .rp 1 [aTr psB] 0 0)] (LVw.refl _) ?_ ?_
  · intro p hp
    simp only [List.mem_singleton] at hp
    subst hp
    show Vw [] _ (.rp 1 [aTr psB] 0 0)
    simp only [go_sem]
    refine Vw.mkRp ?_
    repeat (first | exact Vw.refl _ | exact Vws.nil | exact Vw.nil _ | refine Vws.cons ?_ ?_ | refine Vw.mkAgg ?_ | refine Vw.mkSl ?_)
  simp only [go_sem]
  have i1 : decide (([2, 1] : List Int) = [2, 1]) = true := by decide
  have i2 : decide (psB = psB) = true := decide_eq_true rfl
  repeat (first | ((with_reducible refine AWp.ofC ?_ ?_); (focus exact rfl); simp only [go_sem]) | ((with_reducible refine And.intro ?_ ?_); focus first | exact True.intro | omega | (intros; (with_reducible and_intros) <;> first | (with_reducible assumption) | omega; done)))
  repeat ((with_reducible refine And.intro ?_ ?_); focus first | exact True.intro | omega | (intros; (with_reducible and_intros) <;> first | (with_reducible assumption) | omega; done) | (simp; done) | (simp; omega))
  refine GCall.use (ab (decide (([2, 1] : List Int) = [2, 1]))) (fun _ => ⟨(by first | exact True.intro | omega | (intros; (with_reducible and_intros) <;> first | (with_reducible assumption) | omega) | (simp; done) | (simp; omega) | (intros; simp_all; done) | (intros; simp_all; omega)), (ints_equal [2, 1] [2, 1] (by decide)).val.use ⟨rfl, rfl⟩⟩) ?_; simp only [go_sem, i1]
  repeat (first | ((with_reducible refine AWp.ofC ?_ ?_); (focus exact rfl); simp only [go_sem, i1]) | ((with_reducible refine And.intro ?_ ?_); focus first | exact True.intro | omega | (intros; (with_reducible and_intros) <;> first | (with_reducible assumption) | omega; done)))
  repeat ((with_reducible refine And.intro ?_ ?_); focus first | exact True.intro | omega | (intros; (with_reducible and_intros) <;> first | (with_reducible assumption) | omega; done) | (simp; done) | (simp; omega))
  refine GCall.use (ab (decide (psB = psB))) (fun _ => ⟨(by first | exact True.intro | omega | (intros; (with_reducible and_intros) <;> first | (with_reducible assumption) | omega) | (simp; done) | (simp; omega) | (intros; simp_all; done) | (intros; simp_all; omega)), (ref12_Same psB psB psB_sm).val.use ⟨rfl, rfl⟩⟩) ?_; simp only [go_sem, i2]
  repeat (first | ((with_reducible refine AWp.ofC ?_ ?_); (focus exact rfl); simp only [go_sem]) | ((with_reducible refine And.intro ?_ ?_); focus first | exact True.intro | omega | (intros; (with_reducible and_intros) <;> first | (with_reducible assumption) | omega; done)))
  refine ret_eq ?_; simp only [go_sem]
end Go.AL
