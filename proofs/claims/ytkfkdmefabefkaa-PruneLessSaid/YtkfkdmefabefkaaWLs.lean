/- The law PruneLess: the walk. No condition. -/
import Derived.Test.YtkfkdmefabefkaaWPk2
import Derived.Test.YtkfkdmefabefkaaWAw
namespace Go.AL
open Go Go.RowKit
set_option maxRecDepth 4000
def asg20 (e : Ev) : Bool := decide (20 < (e.asg.length : Int))
def bigP (x : Pr) : Bool := decide (70 < (x.evs.length : Int)) || (decide (20 < (x.vars.length : Int)) || x.evs.any asg20)
def bigF (ps : List Pr) : Bool := decide (10 < (ps.length : Int)) || ps.any bigP
theorem bigF_sm {ps : List Pr} (h : bigF ps = false) : Sm ps := by
  simp only [bigF, Bool.or_eq_false_iff, decide_eq_false_iff_not, List.any_eq_false, bigP, asg20, Bool.or_eq_true, decide_eq_true_eq, not_or, Bool.not_eq_true] at h
  obtain ⟨h1, h2⟩ := h
  exact ⟨by omega, fun p hp => by have := (h2 p hp).1; omega, fun p hp => by have := (h2 p hp).2.1; omega, fun p hp e he => by have := (h2 p hp).2.2 e he; omega⟩
theorem law49_big11 (e : Ev) : PC Go.Proofs.Try.prog 32 [aEv e] (ab (asg20 e)) := by
  refine PC.enter 7 [.tmp 2] [1] Go.Proofs.Try.func32 rfl rfl rfl rfl rfl (by simp) (AWp.of ?_); simp only [go_sem]
  repeat (first | ((with_reducible refine AWp.ofC ?_ ?_); (focus exact rfl); simp only [go_sem]) | ((with_reducible refine And.intro ?_ ?_); focus first | exact True.intro | omega | (intros; (with_reducible and_intros) <;> first | (with_reducible assumption) | omega; done)))
  refine ret_eq ?_; simp only [go_sem]
  rfl
theorem law49_big1 (x : Pr) : PC Go.Proofs.Try.prog 30 [aPr x] (ab (bigP x)) := by
  refine PC.enter 18 [.tmp 2] [1] Go.Proofs.Try.func30 rfl rfl rfl rfl rfl (by simp) (AWp.of ?_); simp only [go_sem]
  repeat (first | ((with_reducible refine AWp.ofC ?_ ?_); (focus exact rfl); simp only [go_sem]) | ((with_reducible refine And.intro ?_ ?_); focus first | exact True.intro | omega | (intros; (with_reducible and_intros) <;> first | (with_reducible assumption) | omega; done)))
  refine GCall.use (ab (x.evs.any asg20)) (fun hg => ⟨by have := hg; simp at this ⊢; omega, (events_containsFunc x.evs (by have := hg; simp at this; omega) _ rfl asg20 fun e _ => (law49_big11 e).val).val.use ⟨rfl, rfl⟩⟩) ?_; simp only [go_sem]
  repeat (first | ((with_reducible refine AWp.ofC ?_ ?_); (focus exact rfl); simp only [go_sem]) | ((with_reducible refine And.intro ?_ ?_); focus first | exact True.intro | omega | (intros; (with_reducible and_intros) <;> first | (with_reducible assumption) | omega; done)))
  refine ret_eq ?_; simp only [go_sem]
  unfold bigP; rw [Bool.or_assoc]
theorem law49_big (ps : List Pr) : PC Go.Proofs.Try.prog 14 [aTr ps] (ab (bigF ps)) := by
  refine PC.enter 12 [.tmp 2] [1] Go.Proofs.Try.func14 rfl rfl rfl rfl rfl (by simp) (AWp.of ?_); simp only [go_sem]
  repeat (first | ((with_reducible refine AWp.ofC ?_ ?_); (focus exact rfl); simp only [go_sem]) | ((with_reducible refine And.intro ?_ ?_); focus first | exact True.intro | omega | (intros; (with_reducible and_intros) <;> first | (with_reducible assumption) | omega; done)))
  refine GCall.use (ab (ps.any bigP)) (fun hg => ⟨by have := hg; simp at this ⊢; omega, (procs_containsFunc ps (by have := hg; simp at this; omega) _ rfl bigP fun e _ => (law49_big1 e).val).val.use ⟨rfl, rfl⟩⟩) ?_; simp only [go_sem]
  repeat (first | ((with_reducible refine AWp.ofC ?_ ?_); (focus exact rfl); simp only [go_sem]) | ((with_reducible refine And.intro ?_ ?_); focus first | exact True.intro | omega | (intros; (with_reducible and_intros) <;> first | (with_reducible assumption) | omega; done)))
  refine ret_eq ?_; simp only [go_sem]
  rfl
theorem off_small {ps : List Pr} (hs : Sm ps) : ∀ k, k ≤ ps.length → off ps k ≤ k * 1000000 := by
  intro k
  induction k with
  | zero => intro _; simp [off]
  | succ k ih =>
    intro hk
    rw [off_succ (by omega)]
    have h1 := ih (by omega)
    have h2 := hs.evs _ (List.getElem_mem (show k < ps.length by omega))
    omega
theorem law49_size (ps : List Pr) (hs : Sm ps) : PC Go.Proofs.Try.prog 15 [aTr ps] (ai (off ps ps.length)) := by
  have hl := hs.procs
  have hof := off_small hs
  refine PC.enter 20 [.tmp 2] [1, 5] Go.Proofs.Try.func15 rfl rfl rfl rfl rfl (by simp) (AWp.of ?_); simp only [go_sem]
  repeat (first | ((with_reducible refine AWp.ofC ?_ ?_); (focus exact rfl); simp only [go_sem]) | ((with_reducible refine And.intro ?_ ?_); focus first | exact True.intro | omega | (intros; (with_reducible and_intros) <;> first | (with_reducible assumption) | omega; done)))
  refine AWp.range' ps.length [3] [7, 8] (fun k vs L => L = [] ∧ vs = [ai (off ps k)]) (by omega) rfl rfl rfl ⟨rfl, by simp [off]; rfl⟩ ?_ ?_
  · rintro k vs L' hk - ⟨rfl, rfl⟩
    have h1 := hof k (by omega)
    have h2 := hs.evs _ (List.getElem_mem hk)
    simp only [go_sem]
    repeat ((with_reducible refine And.intro ?_ ?_); focus first | exact True.intro | omega | (intros; (with_reducible and_intros) <;> first | (with_reducible assumption) | omega; done) | (simp; done) | (simp; omega))
    refine AWp.of ?_; simp only [go_sem, getD_map hk]
    repeat ((with_reducible refine And.intro ?_ ?_); focus first | exact True.intro | omega | (intros; (with_reducible and_intros) <;> first | (with_reducible assumption) | omega; done) | (simp; done) | (simp; omega))
    intros
    refine AWp.of ?_; simp only [go_sem]
    repeat ((with_reducible refine And.intro ?_ ?_); focus first | exact True.intro | omega | (intros; (with_reducible and_intros) <;> first | (with_reducible assumption) | omega; done) | (simp; done) | (simp; omega))
    exact ⟨_, List.Sublist.refl _, rfl, by rw [off_succ hk]; simp⟩
  · rintro vs L' - ⟨rfl, rfl⟩
    simp only [go_sem]
    repeat (first | ((with_reducible refine AWp.ofC ?_ ?_); (focus exact rfl); simp only [go_sem]) | ((with_reducible refine And.intro ?_ ?_); focus first | exact True.intro | omega | (intros; (with_reducible and_intros) <;> first | (with_reducible assumption) | omega; done)))
    refine ret_eq ?_; simp only [go_sem]
def bad64 (n : Int) : Bool := decide (n < 0) || decide (64 < n)
theorem law49_Less1 (n : Int) : PC Go.Proofs.Try.prog 17 [ai n] (ab (bad64 n)) := by
  refine PC.enter 9 [.tmp 2] [] Go.Proofs.Try.func17 rfl rfl rfl rfl rfl (by simp) (AWp.of ?_); simp only [go_sem]
  repeat (first | ((with_reducible refine AWp.ofC ?_ ?_); (focus exact rfl); simp only [go_sem]) | ((with_reducible refine And.intro ?_ ?_); focus first | exact True.intro | omega | (intros; (with_reducible and_intros) <;> first | (with_reducible assumption) | omega; done)))
  refine ret_eq ?_; simp only [go_sem]
  rfl
theorem aPeak_cases (ps : List Pr) (order : List Int) : (∃ e : Int, e ≠ 0 ∧ aPeak ps order = .tup [ai 0, ai e]) ∨ (validF ps = true ∧ order.any (badP ps.length) = false ∧ RunOk ps order order.length ∧ aPeak ps order = .tup [ai (peakF ps order order.length), ai 0]) := by
  unfold aPeak
  by_cases h1 : validF ps = false
  · exact .inl ⟨1, by decide, by rw [if_pos h1]⟩
  · rw [if_neg h1]
    by_cases h2 : order.any (badP ps.length) = true
    · exact .inl ⟨2, by decide, by rw [if_pos h2]⟩
    · rw [if_neg h2]
      by_cases h3 : RunOk ps order order.length
      · exact .inr ⟨by simpa using h1, by simpa using h2, h3, by rw [if_pos h3]⟩
      · exact .inl ⟨11, by decide, by rw [if_neg h3]⟩
theorem zipWith_idem {f : Int → Int → Int} (hf : ∀ a, f a a = a) : ∀ l : List Int, List.zipWith f l l = l
  | [] => rfl
  | a :: l => by rw [List.zipWith_cons_cons, hf, zipWith_idem hf l]
theorem foldF_rep {f : Int → Int → Int} (hf : ∀ a, f a a = a) (l : List Int) : ∀ n, foldF f (List.replicate (n + 1) l) = l
  | 0 => rfl
  | n + 1 => by
    have ih := foldF_rep hf l n
    simp only [foldF, List.replicate_succ, List.foldl_cons] at ih ⊢
    rw [zipWith_idem hf l]; exact ih
theorem sub_self_sum : ∀ l : List Int, (List.zipWith (fun a b => a - b) l l).sum = 0
  | [] => rfl
  | a :: l => by rw [List.zipWith_cons_cons, List.sum_cons, sub_self_sum l]; omega
theorem rep_known {l : List Int} (h1 : 1 ≤ l.length) (h8 : l.length ≤ 8) (h : l.any bad64 = false) : aKept (List.replicate l.length l) = .tup [ai 0, ai 0] ∧ aStable (List.replicate l.length l) = .tup [aInts l, ai 0] := by
  have hall : l.all inB = true := by
    rw [List.all_eq_true]
    intro x hx
    have := List.any_eq_false.1 h x hx
    simp only [bad64, Bool.or_eq_true, decide_eq_true_eq, not_or, Int.not_lt] at this
    simp only [inB, Bool.and_eq_true, decide_eq_true_eq]
    omega
  have hk : isKn (List.replicate l.length l) = true := by
    unfold isKn
    rw [List.length_replicate, decide_eq_true h1, decide_eq_true h8, List.all_eq_true.2]
    · rfl
    · intro x hx
      rw [(List.mem_replicate.1 hx).2, hall]; simp
  obtain ⟨n, hn⟩ : ∃ n, l.length = n + 1 := ⟨l.length - 1, by omega⟩
  have f1 : foldF max (List.replicate l.length l) = l := by rw [hn]; exact foldF_rep (fun a => by omega) l n
  have f2 : foldF min (List.replicate l.length l) = l := by rw [hn]; exact foldF_rep (fun a => by omega) l n
  constructor
  · unfold aKept keptF kZ
    rw [if_pos hk, f1, f2, sub_self_sum]
  · unfold aStable
    rw [if_pos hk, f2]
theorem law49_PruneLess (ps : List Pr) (order l : List Int) : PC Go.Proofs.Try.prog 4 [aTr ps, aInts order, aInts l] (ab true) := by
  refine PC.enter 147 [.tmp 6] [3] Go.Proofs.Try.func4 rfl rfl rfl rfl rfl (by simp) (AWp.of ?_); simp only [go_sem]
  repeat (first | ((with_reducible refine AWp.ofC ?_ ?_); (focus exact rfl); simp only [go_sem]) | ((with_reducible refine And.intro ?_ ?_); focus first | exact True.intro | omega | (intros; (with_reducible and_intros) <;> first | (with_reducible assumption) | omega; done)))
  repeat ((with_reducible refine And.intro ?_ ?_); focus first | exact True.intro | omega | (intros; (with_reducible and_intros) <;> first | (with_reducible assumption) | omega; done) | (simp; done) | (simp; omega))
  refine (law49_awake).val.use ?_; simp only [go_sem]
  repeat (first | ((with_reducible refine AWp.ofC ?_ ?_); (focus exact rfl); simp only [go_sem]) | ((with_reducible refine And.intro ?_ ?_); focus first | exact True.intro | omega | (intros; (with_reducible and_intros) <;> first | (with_reducible assumption) | omega; done)))
  repeat ((with_reducible refine And.intro ?_ ?_); focus first | exact True.intro | omega | (intros; (with_reducible and_intros) <;> first | (with_reducible assumption) | omega; done) | (simp; done) | (simp; omega))
  refine (law49_big ps).val.use ?_; simp only [go_sem]
  repeat (first | ((with_reducible refine AWp.ofC ?_ ?_); (focus exact rfl); simp only [go_sem]) | ((with_reducible refine And.intro ?_ ?_); focus first | exact True.intro | omega | (intros; (with_reducible and_intros) <;> first | (with_reducible assumption) | omega; done)))
  refine GCall.use (ai (off ps ps.length)) (fun hg => ⟨hg, (law49_size ps (bigF_sm hg)).val.use ⟨rfl, rfl⟩⟩) ?_; simp only [go_sem]
  repeat (first | ((with_reducible refine AWp.ofC ?_ ?_); (focus exact rfl); simp only [go_sem]) | ((with_reducible refine And.intro ?_ ?_); focus first | exact True.intro | omega | (intros; (with_reducible and_intros) <;> first | (with_reducible assumption) | omega; done)))
  refine GCall.use (ab (l.any bad64)) (fun hg => ⟨by have := hg; simp at this ⊢; omega, (ints_containsFunc l (by have := hg; simp at this; omega) _ rfl bad64 fun n _ => (law49_Less1 n).val).val.use ⟨rfl, rfl⟩⟩) ?_; simp only [go_sem]
  repeat (first | ((with_reducible refine AWp.ofC ?_ ?_); (focus exact rfl); simp only [go_sem]) | ((with_reducible refine And.intro ?_ ?_); focus first | exact True.intro | omega | (intros; (with_reducible and_intros) <;> first | (with_reducible assumption) | omega; done)))
  refine ⟨fun h1 => ?_, fun h1 => ?_⟩
  · repeat (first | ((with_reducible refine AWp.ofC ?_ ?_); (focus exact rfl); simp only [go_sem]) | ((with_reducible refine And.intro ?_ ?_); focus first | exact True.intro | omega | (intros; (with_reducible and_intros) <;> first | (with_reducible assumption) | omega; done)))
    refine ret_eq ?_; simp only [go_sem]
  · intro h2 h3 h4 h5 h6
    have hs := bigF_sm h1
    have hl1 : 1 ≤ l.length := by omega
    have hl8 : l.length ≤ 8 := by omega
    have hl : l.length ≤ 1000000 := by omega
    have ho : order.length ≤ 1000000 := by omega
    obtain ⟨r1, r2⟩ := rep_known hl1 hl8 h6
    have c1 := prune_Kept (List.replicate l.length l) (by simpa using hl) (fun r hr => by rw [(List.mem_replicate.1 hr).2]; exact hl)
    have c2 := prune_Stable (List.replicate l.length l) (by simpa using hl) (fun r hr => by rw [(List.mem_replicate.1 hr).2]; exact hl)
    rw [r1] at c1
    rw [r2] at c2
    repeat ((with_reducible refine And.intro ?_ ?_); focus first | exact True.intro | omega | (intros; (with_reducible and_intros) <;> first | (with_reducible assumption) | omega; done) | (simp; done) | (simp; omega))
    refine AWp.of ?_; simp only [go_sem]
    repeat ((with_reducible refine And.intro ?_ ?_); focus first | exact True.intro | omega | (intros; (with_reducible and_intros) <;> first | (with_reducible assumption) | omega; done) | (simp; done) | (simp; omega))
    intro ba
    have hL0 : List.replicate l.length anil = (List.range l.length).map fun q => if q < 0 then AV.sl 1 (l.map ai) else anil := by
      apply List.ext_getElem (by simp); intro i h1 h2; simp
    repeat ((with_reducible refine And.intro ?_ ?_); focus first | exact True.intro | omega | (intros; (with_reducible and_intros) <;> first | (with_reducible assumption) | omega; done) | (simp; done) | (simp; omega))
    refine AWp.of ?_; simp only [go_sem]
    rw [hL0]
    refine AWp.range' l.length [] [1, 2, 3, 7, 51] (fun k vs L => L = [(ba, .row 25 1 ((List.range l.length).map fun q => if q < k then AV.sl 1 (l.map ai) else anil) l.length)]) (by omega) rfl rfl rfl rfl ?_ ?_
    · rintro k vs L' hk - rfl
      have hgk : ((List.range l.length).map fun q => if q < k then AV.sl 1 (l.map ai) else anil).getD k .any = anil := by rw [map_range_getD hk, if_neg (Nat.lt_irrefl k)]
      simp only [go_sem]
      repeat ((with_reducible refine And.intro ?_ ?_); focus first | exact True.intro | omega | (intros; (with_reducible and_intros) <;> first | (with_reducible assumption) | omega; done) | (simp; done) | (simp; omega))
      refine AWp.of ?_; simp only [go_sem]
      repeat ((with_reducible refine And.intro ?_ ?_); focus first | exact True.intro | omega | (intros; (with_reducible and_intros) <;> first | (with_reducible assumption) | omega; done) | (simp; done) | (simp; omega))
      refine AWp.of ?_; simp only [go_sem]
      repeat ((with_reducible refine And.intro ?_ ?_); focus first | exact True.intro | omega | (intros; (with_reducible and_intros) <;> first | (with_reducible assumption) | omega; done) | (simp; done) | (simp; omega))
      refine (ints_clone l hl).val.use ?_; simp only [go_sem, hgk, List.length_range]
      repeat ((with_reducible refine And.intro ?_ ?_); focus first | exact True.intro | omega | (intros; (with_reducible and_intros) <;> first | (with_reducible assumption) | omega; done) | (simp; done) | (simp; omega))
      refine ⟨_, List.Sublist.refl _, ?_⟩
      rw [map_range_set]
      congr 4
      funext q
      by_cases e : q = k
      · rw [if_pos e, if_pos (by omega)]
      · rw [if_neg e]
        by_cases e2 : q < k
        · rw [if_pos e2, if_pos (by omega)]
        · rw [if_neg e2, if_neg (by omega)]
    · rintro vs L' - rfl
      have hK : ((List.range l.length).map fun q => if q < l.length then AV.sl 1 (l.map ai) else anil) = (List.replicate l.length l).map aInts := by
        apply List.ext_getElem (by simp); intro i h1 h2; simp at h1; simp [h1, aInts]
      simp only [go_sem]
      rw [hK]
      refine AWp.view [true] [(7, .sl 1 ((List.replicate l.length l).map aInts))] (LVw.refl _) ?_ ?_
      · intro q hq
        simp only [List.mem_singleton] at hq
        subst hq
        show Vw _ _ (.sl 1 ((List.replicate l.length l).map aInts))
        simp only [go_sem]
        exact Vw.ofLs (t := 25) (cap := l.length) (if_pos rfl) (by simp)
      simp only [go_sem]
      repeat (first | ((with_reducible refine AWp.ofC ?_ ?_); (focus exact rfl); simp only [go_sem]) | ((with_reducible refine And.intro ?_ ?_); focus first | exact True.intro | omega | (intros; (with_reducible and_intros) <;> first | (with_reducible assumption) | omega; done)))
      repeat ((with_reducible refine And.intro ?_ ?_); focus first | exact True.intro | omega | (intros; (with_reducible and_intros) <;> first | (with_reducible assumption) | omega; done) | (simp; done) | (simp; omega))
      refine (c1).val.use ?_; simp only [go_sem]
      repeat (first | ((with_reducible refine AWp.ofC ?_ ?_); (focus exact rfl); simp only [go_sem]) | ((with_reducible refine And.intro ?_ ?_); focus first | exact True.intro | omega | (intros; (with_reducible and_intros) <;> first | (with_reducible assumption) | omega; done)))
      repeat ((with_reducible refine And.intro ?_ ?_); focus first | exact True.intro | omega | (intros; (with_reducible and_intros) <;> first | (with_reducible assumption) | omega; done) | (simp; done) | (simp; omega))
      refine (c2).val.use ?_; simp only [go_sem]
      repeat (first | ((with_reducible refine AWp.ofC ?_ ?_); (focus exact rfl); simp only [go_sem]) | ((with_reducible refine And.intro ?_ ?_); focus first | exact True.intro | omega | (intros; (with_reducible and_intros) <;> first | (with_reducible assumption) | omega; done)))
      have i1 : decide (l = l) = true := decide_eq_true rfl
      repeat ((with_reducible refine And.intro ?_ ?_); focus first | exact True.intro | omega | (intros; (with_reducible and_intros) <;> first | (with_reducible assumption) | omega; done) | (simp; done) | (simp; omega))
      refine GCall.use (ab (decide (l = l))) (fun _ => ⟨(by first | exact True.intro | omega | (intros; (with_reducible and_intros) <;> first | (with_reducible assumption) | omega) | (simp; done) | (simp; omega) | (intros; simp_all; done) | (intros; simp_all; omega)), (ints_equal l l hl).val.use ⟨rfl, rfl⟩⟩) ?_; simp only [go_sem, i1]
      have c3 := prune_Peak ps hs order ho
      rcases aPeak_cases ps order with ⟨e, he, hpk⟩ | ⟨hv, hb, hR, hpk⟩
      · rw [hpk] at c3
        repeat (first | ((with_reducible refine AWp.ofC ?_ ?_); (focus exact rfl); simp only [go_sem]) | ((with_reducible refine And.intro ?_ ?_); focus first | exact True.intro | omega | (intros; (with_reducible and_intros) <;> first | (with_reducible assumption) | omega; done)))
        repeat ((with_reducible refine And.intro ?_ ?_); focus first | exact True.intro | omega | (intros; (with_reducible and_intros) <;> first | (with_reducible assumption) | omega; done) | (simp; done) | (simp; omega))
        refine (c3).val.use ?_; simp only [go_sem, he]
        repeat (first | ((with_reducible refine AWp.ofC ?_ ?_); (focus exact rfl); simp only [go_sem, he]) | ((with_reducible refine And.intro ?_ ?_); focus first | exact True.intro | omega | (intros; (with_reducible and_intros) <;> first | (with_reducible assumption) | omega; done)))
        refine ret_eq ?_; simp only [go_sem]
      · rw [hpk] at c3
        obtain ⟨hv1, hv8⟩ := valid_len hv
        obtain ⟨hG, hmx⟩ := stampF_gen hs
        repeat (first | ((with_reducible refine AWp.ofC ?_ ?_); (focus exact rfl); simp only [go_sem]) | ((with_reducible refine And.intro ?_ ?_); focus first | exact True.intro | omega | (intros; (with_reducible and_intros) <;> first | (with_reducible assumption) | omega; done)))
        repeat ((with_reducible refine And.intro ?_ ?_); focus first | exact True.intro | omega | (intros; (with_reducible and_intros) <;> first | (with_reducible assumption) | omega; done) | (simp; done) | (simp; omega))
        refine (c3).val.use ?_; simp only [go_sem]
        repeat (first | ((with_reducible refine AWp.ofC ?_ ?_); (focus exact rfl); simp only [go_sem]) | ((with_reducible refine And.intro ?_ ?_); focus first | exact True.intro | omega | (intros; (with_reducible and_intros) <;> first | (with_reducible assumption) | omega; done)))
        refine AWp.range' (order.length + 1) [15] [1, 3, 13, 99] (fun k vs L => L = [] ∧ vs = [ai (peakF ps order (k - 1))]) (by omega) rfl rfl rfl ⟨rfl, rfl⟩ ?_ ?_
        · rintro k vs L' hk - ⟨rfl, rfl⟩
          have ct := prune_Peak ps hs (order.take k) (take_le ho)
          have htl : (order.take k).length = k := by rw [List.length_take]; omega
          have hbt : (order.take k).any (badP ps.length) = false := by
            rw [List.any_eq_false] at hb ⊢
            exact fun x hx => hb x (List.mem_of_mem_take hx)
          have hpt : aPeak ps (order.take k) = .tup [ai (peakF ps order k), ai 0] := by
            unfold aPeak
            rw [if_neg (by rw [hv]; decide), if_neg (by rw [hbt]; decide), htl, if_pos ((take_RunOk (Nat.le_refl k)).2 (hR.le (by omega))), take_peakF (Nat.le_refl k)]
          rw [hpt] at ct
          obtain ⟨p1, p2, p3⟩ := peak_bounds hv1 hG hmx (by omega : k ≤ order.length) (hR.le (by omega))
          obtain ⟨q1, q2, _⟩ := peak_bounds hv1 hG hmx (by omega : k - 1 ≤ order.length) (hR.le (by omega))
          have hmono : peakF ps order (k - 1) ≤ peakF ps order k := by
            cases k with
            | zero => exact Int.le_refl _
            | succ k => show peakF ps order k ≤ max _ _; omega
          simp only [go_sem]
          repeat (first | ((with_reducible refine AWp.ofC ?_ ?_); (focus exact rfl); simp only [go_sem]) | ((with_reducible refine And.intro ?_ ?_); focus first | exact True.intro | omega | (intros; (with_reducible and_intros) <;> first | (with_reducible assumption) | omega; done)))
          refine AWp.seq ?_
          refine AWp.drawn mixed 10 (by kernel_rfl) ?_; simp only [go_sem]
          repeat ((with_reducible refine And.intro ?_ ?_); focus first | exact True.intro | omega | (intros; (with_reducible and_intros) <;> first | (with_reducible assumption) | omega; done) | (simp; done) | (simp; omega))
          refine GCall.use (.tup [ai (peakF ps order k), ai 0]) (fun _ => ⟨(by first | exact True.intro | omega | (intros; (with_reducible and_intros) <;> first | (with_reducible assumption) | omega) | (simp; done) | (simp; omega) | (intros; simp_all; done) | (intros; simp_all; omega)), (ct).val.use ⟨rfl, rfl⟩⟩) ?_; simp only [go_sem]
          repeat ((with_reducible refine And.intro ?_ ?_); focus first | exact True.intro | omega | (intros; (with_reducible and_intros) <;> first | (with_reducible assumption) | omega; done) | (simp; done) | (simp; omega))
          have n1 : ¬ peakF ps order k < peakF ps order (k - 1) := by omega
          have n2 : ¬ (k : Int) < peakF ps order k := by omega
          have n3 : ¬ peakF ps order (k - 1) + (k : Int) < peakF ps order k := by omega
          repeat (first | ((with_reducible refine AWp.ofC ?_ ?_); (focus exact rfl); simp only [go_sem, n1, n2, n3]) | ((with_reducible refine And.intro ?_ ?_); focus first | exact True.intro | omega | (intros; (with_reducible and_intros) <;> first | (with_reducible assumption) | omega; done)))
          intro _
          repeat (first | ((with_reducible refine AWp.ofC ?_ ?_); (focus exact rfl); simp only [go_sem]) | ((with_reducible refine And.intro ?_ ?_); focus first | exact True.intro | omega | (intros; (with_reducible and_intros) <;> first | (with_reducible assumption) | omega; done)))
          exact ⟨_, List.Sublist.refl _, rfl, rfl⟩
        · rintro vs L' - ⟨rfl, rfl⟩
          simp only [go_sem]
          repeat (first | ((with_reducible refine AWp.ofC ?_ ?_); (focus exact rfl); simp only [go_sem]) | ((with_reducible refine And.intro ?_ ?_); focus first | exact True.intro | omega | (intros; (with_reducible and_intros) <;> first | (with_reducible assumption) | omega; done)))
          refine ret_eq ?_; simp only [go_sem]
          rw [show order.length + 1 - 1 = order.length by omega, decide_eq_true rfl]
end Go.AL
