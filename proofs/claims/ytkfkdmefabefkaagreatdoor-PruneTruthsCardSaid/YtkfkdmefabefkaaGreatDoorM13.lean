/- Texts of this claim's proof: WAw, WSd, WBig, WPw3, WTs, AlBr, AlBr2, AlBr3, WRt, WRt2, AlBr4. No condition. -/
import Derived.Test.YtkfkdmefabefkaaGreatDoorM7
import Derived.Test.YtkfkdmefabefkaaGreatDoorM6
import Derived.Test.YtkfkdmefabefkaaGreatDoorM9
import Derived.Test.YtkfkdmefabefkaaGreatDoorM12
import Derived.Test.YtkfkdmefabefkaaGreatDoorM4
import Derived.ProofKit
import Derived.Lib.LaidTab
section
/- The law of layer 49: awake. No condition. -/
namespace Go.AL
open Go Go.RowKit
set_option maxRecDepth 4000
theorem Vw.mkRp {L : AHeap} {xs xs' : List AV} {k i j : Nat} (h : Vws L xs xs') : Vw L (.rp k xs i j) (.rp k xs' i j) := .rp h.1 h.2
def psA : List Pr := [⟨⟨#[112]⟩, [], [⟨2, 1, 5, 0, []⟩]⟩, ⟨⟨#[113]⟩, [], [⟨3, 0, 5, 3, []⟩]⟩]
def psB : List Pr := [⟨⟨#[112]⟩, [], []⟩, ⟨⟨#[113]⟩, [], [⟨1, 0, 0, 3, []⟩]⟩]
theorem psA_valid : validF psA = true := by
  unfold validF faultF
  rw [if_neg (by decide), show procFirst psA = none from rfl, show evFirst psA = none from rfl, show msgF psA = none from rfl, cycF_rank (fun x => x.1) (by decide)]
  rfl
theorem psA_given : givenF psA [[1, 0]] [] = 0 := by
  unfold givenF sizedF
  rw [psA_valid]
  rfl
theorem psA_drop : dropF psA [1, 0] = psB := by rfl
theorem psA_sm : Sm psA := ⟨by decide, by decide, by decide, by decide⟩
theorem psB_sm : Sm psB := ⟨by decide, by decide, by decide, by decide⟩
theorem law49_awake : PC Go.Proofs.Tryz.prog 7 [] (ab true) := by
  have h1 := prune_Stable [[3, 1], [2, 4]] (by decide) (by decide)
  have h2 := prune_Kept [[3, 1], [2, 4]] (by decide) (by decide)
  have h3 := prune_Drop psA psA_sm [1, 0] (by decide)
  have e1 : aStable [[3, 1], [2, 4]] = .tup [aInts [2, 1], ai 0] := by rfl
  have e2 : aKept [[3, 1], [2, 4]] = .tup [ai 4, ai 0] := by rfl
  have e3 : aDrop psA [1, 0] = .tup [aTr psB, ai 0] := by unfold aDrop; rw [if_neg (by simp [psA_given]), psA_drop]
  rw [e1] at h1; rw [e2] at h2; rw [e3] at h3
  refine PC.enter 67 [.tmp 0] [6, 7, 9, 10, 11, 12, 24, 27, 29, 33, 39, 41, 47] Go.Proofs.Tryz.func7 rfl rfl rfl rfl rfl (by simp) (AWp.of ?_); simp only [go_sem]
  repeat (first | ((with_reducible refine AWp.ofC ?_ ?_); (focus exact rfl); simp only [go_sem]) | ((with_reducible refine an ?_ ?_); focus exact Au))
  repeat ((with_reducible refine an ?_ ?_); focus exact As)
  refine (h1).val.use ?_; simp only [go_sem]
  repeat (first | ((with_reducible refine AWp.ofC ?_ ?_); (focus exact rfl); simp only [go_sem]) | ((with_reducible refine an ?_ ?_); focus exact Au))
  repeat ((with_reducible refine an ?_ ?_); focus exact As)
  refine (h2).val.use ?_; simp only [go_sem]
  repeat (first | ((with_reducible refine AWp.ofC ?_ ?_); (focus exact rfl); simp only [go_sem]) | ((with_reducible refine an ?_ ?_); focus exact Au))
  intro b6
  refine AWp.view [] [(6, .rp 1 [aTr psA] 0 0)] (LVw.refl _) ?_ ?_
  · intro p hp
    simp only [List.mem_singleton] at hp
    subst hp
    show Vw [] _ (.rp 1 [aTr psA] 0 0)
    simp only [go_sem]
    refine Vw.mkRp ?_
    repeat (first | exact Vw.refl _ | exact Vws.nil | exact Vw.nil _ | refine Vws.cons ?_ ?_ | refine Vw.mkAgg ?_ | refine Vw.mkSl ?_)
  simp only [go_sem]
  repeat ((with_reducible refine an ?_ ?_); focus exact As)
  refine AWp.of ?_; simp only [go_sem]
  repeat ((with_reducible refine an ?_ ?_); focus exact As)
  refine (h3).val.use ?_; simp only [go_sem]
  repeat (first | ((with_reducible refine AWp.ofC ?_ ?_); (focus exact rfl); simp only [go_sem]) | ((with_reducible refine an ?_ ?_); focus exact Au))
  intro b7
  repeat (first | ((with_reducible refine AWp.ofC ?_ ?_); (focus exact rfl); simp only [go_sem]) | ((with_reducible refine an ?_ ?_); focus exact Au))
  intro b9
  refine AWp.view [] [(9, .rp 1 [aTr psB] 0 0)] (LVw.refl _) ?_ ?_
  · intro p hp
    simp only [List.mem_singleton] at hp
    subst hp
    show Vw [] _ (.rp 1 [aTr psB] 0 0)
    simp only [go_sem]
    refine Vw.mkRp ?_
    repeat (first | exact Vw.refl _ | exact Vws.nil | exact Vw.nil _ | refine Vws.cons ?_ ?_ | refine Vw.mkAgg ?_ | refine Vw.mkSl ?_)
  simp only [go_sem]
  have i1 : decide (([2, 1] : List Int) = [2, 1]) = true := by decide
  have i2 : decide (psB = psB) = true := decide_eq_true rfl
  repeat (first | ((with_reducible refine AWp.ofC ?_ ?_); (focus exact rfl); simp only [go_sem]) | ((with_reducible refine an ?_ ?_); focus exact Au))
  repeat ((with_reducible refine an ?_ ?_); focus exact As)
  refine GCall.use (ab (decide (([2, 1] : List Int) = [2, 1]))) (fun _ => ⟨At, (ints_equal [2, 1] [2, 1] (by decide)).val.use ⟨rfl, rfl⟩⟩) ?_; simp only [go_sem, i1]
  repeat (first | ((with_reducible refine AWp.ofC ?_ ?_); (focus exact rfl); simp only [go_sem, i1]) | ((with_reducible refine an ?_ ?_); focus exact Au))
  repeat ((with_reducible refine an ?_ ?_); focus exact As)
  refine GCall.use (ab (decide (psB = psB))) (fun _ => ⟨At, (ref12_Same psB psB psB_sm).val.use ⟨rfl, rfl⟩⟩) ?_; simp only [go_sem, i2]
  repeat (first | ((with_reducible refine AWp.ofC ?_ ?_); (focus exact rfl); simp only [go_sem]) | ((with_reducible refine an ?_ ?_); focus exact Au))
  refine ret_eq ?_; simp only [go_sem]
end Go.AL
end
section
/- The dropped trace is small, as the trace is. No condition. -/
namespace Go.AL
open Go Go.RowKit
set_option maxRecDepth 4000
theorem Sm.drop {ps : List Pr} (hs : Sm ps) (c : List Int) : Sm (dropF ps c) := by
  have hx : ∀ x ∈ dropF ps c, ∃ y ∈ ps, ∃ n, x = dropP (sentB ps c) y n := by
    intro x hx
    unfold dropF dropS at hx
    obtain ⟨y, hy, rfl⟩ := List.mem_map.1 hx
    exact ⟨y.1, (List.of_mem_zip hy).1, _, rfl⟩
  refine ⟨?_, ?_, ?_, ?_⟩
  · have := hs.procs; unfold dropF dropS; rw [List.length_map, List.length_zip]; omega
  · intro x h
    obtain ⟨y, hy, n, rfl⟩ := hx x h
    have := hs.evs y hy
    show ((y.evs.drop n).map _).length ≤ _
    rw [List.length_map, List.length_drop]; omega
  · intro x h
    obtain ⟨y, hy, n, rfl⟩ := hx x h
    have := hs.vars y hy
    show ((y.vars.map _).zip _).length ≤ _
    rw [List.length_zip, List.length_map]; omega
  · intro x h e he
    obtain ⟨y, hy, n, rfl⟩ := hx x h
    obtain ⟨z, hz, rfl⟩ := List.mem_map.1 he
    have := hs.asg y hy z (List.mem_of_mem_drop hz)
    unfold dropEv
    split <;> exact this
end Go.AL
end
section
/- Great traces; how many events there are. No condition. -/
namespace Go.AL
open Go Go.RowKit
set_option maxRecDepth 4000
def asg20 (e : Ev) : Bool := decide (20 < (e.asg.length : Int))
def bigP (x : Pr) : Bool := decide (70 < (x.evs.length : Int)) || (decide (20 < (x.vars.length : Int)) || x.evs.any asg20)
def bigF (ps : List Pr) : Bool := decide (10 < (ps.length : Int)) || ps.any bigP
theorem bigF_sm {ps : List Pr} (h : bigF ps = false) : Sm ps := by
  simp only [bigF, Bool.or_eq_false_iff, decide_eq_false_iff_not, List.any_eq_false, bigP, asg20, Bool.or_eq_true, decide_eq_true_eq, not_or, Bool.not_eq_true] at h
  obtain ⟨h1, h2⟩ := h
  exact ⟨by omega, fun p hp => by have := (h2 p hp).1; omega, fun p hp => by have := (h2 p hp).2.1; omega, fun p hp e he => by have := (h2 p hp).2.2 e he; omega⟩
theorem law49_big11 (e : Ev) : PC Go.Proofs.Tryz.prog 38 [aEv e] (ab (asg20 e)) := by
  refine PC.enter 7 [.tmp 2] [1] Go.Proofs.Tryz.func38 rfl rfl rfl rfl rfl (by simp) (AWp.of ?_); simp only [go_sem]
  repeat (first | ((with_reducible refine AWp.ofC ?_ ?_); (focus exact rfl); simp only [go_sem]) | ((with_reducible refine an ?_ ?_); focus exact Au))
  refine ret_eq ?_; simp only [go_sem]
  rfl
theorem law49_big1 (x : Pr) : PC Go.Proofs.Tryz.prog 36 [aPr x] (ab (bigP x)) := by
  refine PC.enter 18 [.tmp 2] [1] Go.Proofs.Tryz.func36 rfl rfl rfl rfl rfl (by simp) (AWp.of ?_); simp only [go_sem]
  repeat (first | ((with_reducible refine AWp.ofC ?_ ?_); (focus exact rfl); simp only [go_sem]) | ((with_reducible refine an ?_ ?_); focus exact Au))
  refine GCall.use (ab (x.evs.any asg20)) (fun hg => ⟨by have := hg; simp at this ⊢; omega, (events_containsFunc x.evs (by have := hg; simp at this; omega) _ rfl asg20 fun e _ => (law49_big11 e).val).val.use ⟨rfl, rfl⟩⟩) ?_; simp only [go_sem]
  repeat (first | ((with_reducible refine AWp.ofC ?_ ?_); (focus exact rfl); simp only [go_sem]) | ((with_reducible refine an ?_ ?_); focus exact Au))
  refine ret_eq ?_; simp only [go_sem]
  unfold bigP; rw [Bool.or_assoc]
theorem law49_big (ps : List Pr) : PC Go.Proofs.Tryz.prog 8 [aTr ps] (ab (bigF ps)) := by
  refine PC.enter 12 [.tmp 2] [1] Go.Proofs.Tryz.func8 rfl rfl rfl rfl rfl (by simp) (AWp.of ?_); simp only [go_sem]
  repeat (first | ((with_reducible refine AWp.ofC ?_ ?_); (focus exact rfl); simp only [go_sem]) | ((with_reducible refine an ?_ ?_); focus exact Au))
  refine GCall.use (ab (ps.any bigP)) (fun hg => ⟨by have := hg; simp at this ⊢; omega, (procs_containsFunc ps (by have := hg; simp at this; omega) _ rfl bigP fun e _ => (law49_big1 e).val).val.use ⟨rfl, rfl⟩⟩) ?_; simp only [go_sem]
  repeat (first | ((with_reducible refine AWp.ofC ?_ ?_); (focus exact rfl); simp only [go_sem]) | ((with_reducible refine an ?_ ?_); focus exact Au))
  refine ret_eq ?_; simp only [go_sem]
  rfl
theorem off_small {ps : List Pr} (hs : Sm ps) : ∀ k, k ≤ ps.length → off ps k ≤ k * 1000000 := by
  intro k
  induction k with
  | zero => intro _; simp [off]
  | succ k ih =>
    intro hk
    rw [off_succ (by omega)]
    have h1 := ih (by omega)
    have h2 := hs.evs _ (List.getElem_mem (show k < ps.length by omega))
    omega
theorem law49_size (ps : List Pr) (hs : Sm ps) : PC Go.Proofs.Tryz.prog 20 [aTr ps] (ai (off ps ps.length)) := by
  have hl := hs.procs
  have hof := off_small hs
  refine PC.enter 20 [.tmp 2] [1, 5] Go.Proofs.Tryz.func20 rfl rfl rfl rfl rfl (by simp) (AWp.of ?_); simp only [go_sem]
  repeat (first | ((with_reducible refine AWp.ofC ?_ ?_); (focus exact rfl); simp only [go_sem]) | ((with_reducible refine an ?_ ?_); focus exact Au))
  refine AWp.range' ps.length [3] [7, 8] (fun k vs L => L = [] ∧ vs = [ai (off ps k)]) (by omega) rfl rfl rfl ⟨rfl, by simp [off]; rfl⟩ ?_ ?_
  · rintro k vs L' hk - ⟨rfl, rfl⟩
    have h1 := hof k (by omega)
    have h2 := hs.evs _ (List.getElem_mem hk)
    simp only [go_sem]
    repeat ((with_reducible refine an ?_ ?_); focus exact As)
    refine AWp.of ?_; simp only [go_sem, getD_map hk]
    repeat ((with_reducible refine an ?_ ?_); focus exact As)
    intros
    refine AWp.of ?_; simp only [go_sem]
    repeat ((with_reducible refine an ?_ ?_); focus exact As)
    exact ⟨_, List.Sublist.refl _, rfl, by rw [off_succ hk]; simp⟩
  · rintro vs L' - ⟨rfl, rfl⟩
    simp only [go_sem]
    repeat (first | ((with_reducible refine AWp.ofC ?_ ?_); (focus exact rfl); simp only [go_sem]) | ((with_reducible refine an ?_ ?_); focus exact Au))
    refine ret_eq ?_; simp only [go_sem]
end Go.AL
end
section
/- Equal trees; trees that are too great. No condition. -/
namespace Go.AL
open Go Go.RowKit
set_option maxRecDepth 4000
theorem ref28_Same (t : Pd) : szF t ≤ 1000000 → PC Go.Proofs.Tryz.prog 19 [aPd t, aPd t] (ab true) := by
  induction t using Pd.ind with
  | _ k n p q s l ih =>
  intro hz
  have hsz : szF (.mk k n p q s l) = szL l + 1 := by rw [szF]
  have hll := szL_len l
  refine PC.enter 67 [.tmp 4] [2, 3] Go.Proofs.Tryz.func19 rfl rfl rfl rfl rfl (by simp) (AWp.of ?_); simp only [go_sem]
  repeat (first | ((with_reducible refine AWp.ofC ?_ ?_); (focus exact rfl); simp only [go_sem]) | ((with_reducible refine an ?_ ?_); focus exact Au))
  refine AWp.block (AWp.count 5 l.length [] [2, 3] (fun i vs L => L = []) rfl rfl rfl ?_)
  rintro i vs L hi - rfl
  simp only [go_sem]
  repeat (first | ((with_reducible refine AWp.ofC ?_ ?_); (focus exact rfl); simp only [go_sem]) | ((with_reducible refine an ?_ ?_); focus exact Au))
  refine ⟨fun h4 => ?_, fun h4 => ?_⟩
  · have hil : i < l.length := by omega
    have hgi := getD_map (f := aPd) hil
    have hzi := szL_mem (List.getElem_mem hil)
    have hch := ih l[i] (List.getElem_mem hil) (by omega)
    generalize l[i] = x at *
    obtain ⟨k2, n2, p2, q2, s2, l2⟩ := x
    simp only [aPd_mk] at hgi hch
    refine AWp.seq (AWp.block (AWp.seq ?_))
    refine AWp.mix mixed [0, 1, 2, 3, 4, 5, 6, 7, 8, 9, 10, 11] .done (by kernel_rfl) ?_; simp only [go_sem, hgi]
    repeat ((with_reducible refine an ?_ ?_); focus exact As)
    refine GCall.use (ab true) (fun _ => ⟨At, (hch).val.use ⟨rfl, rfl⟩⟩) ?_; simp only [go_sem]
    repeat ((with_reducible refine an ?_ ?_); focus exact As)
    repeat (first | ((with_reducible refine AWp.ofC ?_ ?_); (focus exact rfl); simp only [go_sem]) | ((with_reducible refine an ?_ ?_); focus exact Au))
    exact ⟨_, List.Sublist.refl _, rfl⟩
  · repeat (first | ((with_reducible refine AWp.ofC ?_ ?_); (focus exact rfl); simp only [go_sem]) | ((with_reducible refine an ?_ ?_); focus exact Au))
    refine ret_eq ?_; simp only [go_sem]
/-! ### Trees that are too great -/
mutual
def hugeF : Pd → Int → Int → Int
  | .mk _ _ _ _ _ l, d, c => hugeL l (d + 1) (if 40 < d then 1000 else c + 1)
def hugeL : List Pd → Int → Int → Int
  | [], _, c => c
  | x :: r, d, c => if c ≤ 300 then hugeL r d (hugeF x d c) else c
end
theorem hugeL_nil (d c : Int) : hugeL [] d c = c := by rw [hugeL]
theorem hugeL_cons (x : Pd) (r : List Pd) (d c : Int) : hugeL (x :: r) d c = if c ≤ 300 then hugeL r d (hugeF x d c) else c := by rw [hugeL]
theorem hugeL_stop {l : List Pd} {d c : Int} (h : ¬ c ≤ 300) : hugeL l d c = c := by
  cases l with
  | nil => rw [hugeL]
  | cons x r => rw [hugeL, if_neg h]
theorem hugeF_spec (t : Pd) : ∀ d c : Int, 0 ≤ c → c ≤ 300 → c + 1 ≤ hugeF t d c ∧ hugeF t d c ≤ 1000 ∧ (hugeF t d c ≤ 300 → (c + szF t : Int) ≤ hugeF t d c) := by
  induction t using Pd.ind with
  | _ k n p q s l ih =>
  intro d c h0 h1
  rw [hugeF, szF]
  have hl : ∀ l' : List Pd, (∀ x ∈ l', x ∈ l) → ∀ c : Int, 0 ≤ c → c ≤ 1000 → c ≤ hugeL l' (d + 1) c ∧ hugeL l' (d + 1) c ≤ 1000 ∧ (hugeL l' (d + 1) c ≤ 300 → (c + szL l' : Int) ≤ hugeL l' (d + 1) c) := by
    intro l'
    induction l' with
    | nil => intro _ c h0 h1; rw [hugeL, szL]; exact ⟨by omega, h1, fun _ => by omega⟩
    | cons x r ihr =>
      intro hm c h0 h1
      rw [hugeL, szL]
      by_cases hc : c ≤ 300
      · rw [if_pos hc]
        obtain ⟨a1, a2, a3⟩ := ih x (hm x List.mem_cons_self) (d + 1) c h0 hc
        obtain ⟨b1, b2, b3⟩ := ihr (fun y hy => hm y (List.mem_cons_of_mem _ hy)) (hugeF x (d + 1) c) (by omega) a2
        exact ⟨by omega, b2, fun h => by have := b3 h; have := a3 (by omega); omega⟩
      · rw [if_neg hc]
        exact ⟨by omega, h1, fun h => absurd h hc⟩
  split
  · obtain ⟨b1, b2, b3⟩ := hl l (fun _ h => h) 1000 (by decide) (by decide)
    exact ⟨by omega, b2, fun h => by omega⟩
  · obtain ⟨b1, b2, b3⟩ := hl l (fun _ h => h) (c + 1) (by omega) (by omega)
    exact ⟨by omega, b2, fun h => by have := b3 h; omega⟩
theorem hugeL_take {l : List Pd} {d c : Int} : ∀ {i : Nat} (hi : i < l.length), hugeL (l.take (i + 1)) d c = if hugeL (l.take i) d c ≤ 300 then hugeF l[i] d (hugeL (l.take i) d c) else hugeL (l.take i) d c := by
  induction l generalizing c with
  | nil => intro i hi; simp at hi
  | cons x r ih =>
    intro i hi
    cases i with
    | zero =>
      simp only [List.take_succ_cons, List.take_zero, List.getElem_cons_zero, hugeL_cons, hugeL_nil]
    | succ i =>
      simp only [List.take_succ_cons, List.getElem_cons_succ]
      simp only [hugeL_cons]
      by_cases h : c ≤ 300
      · rw [if_pos h, if_pos h]; exact ih (by simpa using hi)
      · rw [if_neg h, if_neg h, if_neg h]
theorem hugeL_full {l : List Pd} {d c : Int} {i : Nat} (h : ¬ hugeL (l.take i) d c ≤ 300) : hugeL l d c = hugeL (l.take i) d c := by
  induction l generalizing c i with
  | nil => rw [List.take_nil]
  | cons x r ih =>
    cases i with
    | zero =>
      have e0 : hugeL [] d c = c := by rw [hugeL]
      rw [List.take_zero, e0] at h
      rw [List.take_zero, e0, hugeL, if_neg h]
    | succ i =>
      rw [List.take_succ_cons, hugeL] at *
      rw [hugeL]
      by_cases hc : c ≤ 300
      · rw [if_pos hc] at h ⊢; rw [if_pos hc]; exact ih h
      · rw [if_neg hc, if_neg hc]
def aHuge (bn bw : Nat) : AV := .clo 39 [.lp bn 1 0 0, .lp bw 1 0 0]
def Lh (bn bw : Nat) (c : Int) : AHeap := [(bw, .row 81 1 [aHuge bn bw] 1), (bn, .row 3 1 [ai c] 1)]
theorem law49_huge1 (bn bw : Nat) (hb : ¬ bn = bw) (t : Pd) : ∀ d c : Int, 0 ≤ d → d ≤ 41 → 0 ≤ c → c ≤ 300 →
    MCalls Go.Proofs.Tryz.prog 39 [aPd t, ai d, .lp bn 1 0 0, .lp bw 1 0 0] (Lh bn bw c) fun r L => r = .tup [] ∧ L = Lh bn bw (hugeF t d c) := by
  induction t using Pd.ind with
  | _ k n p q s l ih =>
  intro d c d0 d1 c0 c1
  have hb' : ¬ bw = bn := fun e => hb e.symm
  have hsp : hugeF (.mk k n p q s l) d c = hugeL l (d + 1) (if 40 < d then 1000 else c + 1) := by rw [hugeF]
  unfold Lh aHuge at *
  refine MCalls.enter' 31 [] [4] Go.Proofs.Tryz.func39 rfl rfl rfl rfl rfl (by simp) (AWp.of ?_); simp only [go_sem]
  generalize hugeF (.mk k n p q s l) d c = z at *
  repeat ((with_reducible refine an ?_ ?_); focus exact As)
  refine AWp.of ?_; simp only [go_sem, hb]
  repeat ((with_reducible refine an ?_ ?_); focus exact As)
  refine AWp.cut [1, 2, 3, 4] (fun vs L => vs = [ai d, .lp bn 1 0 0, .lp bw 1 0 0, .rp 6 [aPd (.mk k n p q s l)] 0 0] ∧ L = [(bw, ABlk.row 81 1 [.clo 39 [.lp bn 1 0 0, .lp bw 1 0 0]] 1), (bn, ABlk.row 3 1 [ai (if 40 < d then 1000 else c + 1)] 1)]) ?_ ?_
  · repeat (first | ((with_reducible refine AWp.ofC ?_ ?_); (focus exact rfl); simp only [go_sem, hb]) | ((with_reducible refine an ?_ ?_); focus exact Au))
    refine ⟨fun h1 => ?_, fun h1 => ?_⟩
    · repeat (first | ((with_reducible refine AWp.ofC ?_ ?_); (focus exact rfl); simp only [go_sem]) | ((with_reducible refine an ?_ ?_); focus exact Au))
      exact ⟨_, List.Sublist.refl _, by rw [if_pos h1]⟩
    · exact ⟨_, List.Sublist.refl _, by rw [if_neg h1]⟩
  rintro vs L - ⟨rfl, rfl⟩
  have hd40 : (if 40 < d then 1000 else c + 1) ≤ 300 → d ≤ 40 := by split <;> omega
  have hC : 0 ≤ (if 40 < d then 1000 else c + 1) ∧ (if 40 < d then 1000 else c + 1) ≤ 1000 := by split <;> omega
  generalize (if 40 < d then 1000 else c + 1) = C at *
  simp only [go_sem]
  repeat (first | ((with_reducible refine AWp.ofC ?_ ?_); (focus exact rfl); simp only [go_sem]) | ((with_reducible refine an ?_ ?_); focus exact Au))
  refine AWp.block (AWp.count 6 l.length [] [1, 2, 3, 4] (fun i vs L => (i : Int) ≤ hugeL (l.take i) (d + 1) C ∧ C ≤ hugeL (l.take i) (d + 1) C ∧ hugeL (l.take i) (d + 1) C ≤ 1000 ∧ L = [(bw, ABlk.row 81 1 [.clo 39 [.lp bn 1 0 0, .lp bw 1 0 0]] 1), (bn, ABlk.row 3 1 [ai (hugeL (l.take i) (d + 1) C)] 1)]) rfl rfl (by rw [List.take_zero, hugeL_nil]; exact ⟨by omega, by omega, by omega, rfl⟩) ?_)
  rintro i vs L hi - ⟨hi1, hi2, hi3, rfl⟩
  have hfull := fun h => hugeL_full (l := l) (d := d + 1) (c := C) (i := i) h
  have htk := fun (h : i < l.length) => hugeL_take (l := l) (d := d + 1) (c := C) h
  have hend : i = l.length → hugeL (l.take i) (d + 1) C = hugeL l (d + 1) C := fun h => by rw [h, List.take_length]
  generalize hugeL (l.take i) (d + 1) C = ci at *
  simp only [go_sem]
  repeat (first | ((with_reducible refine AWp.ofC ?_ ?_); (focus exact rfl); simp only [go_sem, hb]) | ((with_reducible refine an ?_ ?_); focus exact Au))
  refine ⟨fun h4 h5 => ?_, fun h4 => ?_⟩
  · have hil : i < l.length := by omega
    have hgi := getD_map (f := aPd) hil
    have hch := ih l[i] (List.getElem_mem hil) (d + 1) ci (by omega) (by omega) (by omega) h5
    have htk := htk hil
    rw [if_pos h5] at htk
    obtain ⟨g1, g2, _⟩ := hugeF_spec l[i] (d + 1) ci (by omega) h5
    generalize hugeF l[i] (d + 1) ci = cn at *
    generalize l[i] = x at *
    obtain ⟨k2, n2, p2, q2, s2, l2⟩ := x
    simp only [aPd_mk] at hgi hch
    refine AWp.seq (AWp.block ?_)
    refine AWp.mix mixed [1, 2, 3, 4, 5, 6, 7] (.step 0 (.step 8 .done .done) .done) (by kernel_rfl) ?_; simp only [go_sem, hgi, hb']
    repeat ((with_reducible refine an ?_ ?_); focus exact As)
    refine (MCalls.clo hch).mono ?_
    rintro r L ⟨rfl, rfl⟩
    simp only [go_sem]
    repeat (first | ((with_reducible refine AWp.ofC ?_ ?_); (focus exact rfl); simp only [go_sem]) | ((with_reducible refine an ?_ ?_); focus exact Au))
    exact ⟨_, List.Sublist.refl _, by rw [htk]; omega, by rw [htk]; omega, by rw [htk]; exact g2, by rw [htk]⟩
  · repeat (first | ((with_reducible refine AWp.ofC ?_ ?_); (focus exact rfl); simp only [go_sem]) | ((with_reducible refine an ?_ ?_); focus exact Au))
    have hz : z = ci := by
      rw [hsp]
      by_cases e : ci ≤ 300
      · have : ¬ (i : Int) < l.length := fun h => h4 h e
        rw [hend (by omega)]
      · exact hfull e
    refine ret_own ?_
    simp only [go_sem]
    rw [hz]
theorem law49_huge (t : Pd) : PC Go.Proofs.Tryz.prog 9 [aPd t] (ab (decide (300 < hugeF t 0 0))) := by
  have hw := fun bn bw hb => law49_huge1 bn bw hb t 0 0 (by decide) (by decide) (by decide) (by decide)
  unfold Lh aHuge at hw
  generalize hugeF t 0 0 = w at *
  obtain ⟨k, n, p, q, s, l⟩ := t
  simp only [aPd_mk] at *
  refine PC.enter 11 [.tmp 2] [1] Go.Proofs.Tryz.func9 rfl rfl rfl rfl rfl (by simp) (AWp.of ?_); simp only [go_sem]
  repeat (first | ((with_reducible refine AWp.ofC ?_ ?_); (focus exact rfl); simp only [go_sem]) | ((with_reducible refine an ?_ ?_); focus exact Au))
  intro bn
  repeat (first | ((with_reducible refine AWp.ofC ?_ ?_); (focus exact rfl); simp only [go_sem]) | ((with_reducible refine an ?_ ?_); focus exact Au))
  intro bw hlt
  have hb : ¬ bw = bn := by omega
  have hb' : ¬ bn = bw := by omega
  repeat (first | ((with_reducible refine AWp.ofC ?_ ?_); (focus exact rfl); simp only [go_sem, hb]) | ((with_reducible refine an ?_ ?_); focus exact Au))
  repeat ((with_reducible refine an ?_ ?_); focus exact As)
  refine (MCalls.clo (hw bn bw hb')).mono ?_
  rintro r L ⟨rfl, rfl⟩
  simp only [go_sem]
  repeat (first | ((with_reducible refine AWp.ofC ?_ ?_); (focus exact rfl); simp only [go_sem, hb']) | ((with_reducible refine an ?_ ?_); focus exact Au))
  refine ret_eq ?_; simp only [go_sem]
theorem not_huge {t : Pd} (h : ¬ 300 < hugeF t 0 0) : szF t ≤ 300 := by
  have := (hugeF_spec t 0 0 (by decide) (by decide)).2.2 (by omega)
  omega
end Go.AL
end
section
/- The law PruneTruths: the walk. No condition. -/
namespace Go.AL
open Go Go.RowKit
set_option maxRecDepth 4000
theorem AWp.only {C : Cfg} {cd : Code} {Q : AQ} {ρ : Env} {L : AHeap} (ks : List Nat) (h : AWp C cd Q (ks.zip (ks.map (get ρ))) L) : AWp C cd Q ρ L :=
  AWp.st (fun w0 M A0 a w hh => st_forget hh (get_zip ks ρ)) h
theorem map_int_sub (c j : List Int) : subL j c = List.zipWith (fun x y => x - y) j c := rfl
theorem law49_channels (t : Pd) : szF t ≤ 1000000 → PC Go.Proofs.Tryz.prog 21 [aPd t] (ab (!allB nchB t)) := by
  induction t using Pd.ind with
  | _ k n p q s l ih =>
  intro hz
  have hsz : szF (.mk k n p q s l) = szL l + 1 := by rw [szF]
  have hll := szL_len l
  have hc := preds_containsFunc l (by omega) (.v (.func (.func 21) #[] #[])) rfl (fun x => !allB nchB x) fun x hx => (ih x hx (by have := szL_mem hx; omega)).val
  have hall : l.all (allB nchB) = !l.any fun x => !allB nchB x := by rw [List.all_eq_not_any_not]
  have hsp : (!allB nchB (.mk k n p q s l)) = (decide (k = 4) || l.any fun x => !allB nchB x) := by
    rw [allB_mk, hall]
    show (!(decide (k ≠ 4) && !_)) = _
    by_cases e : k = 4
    · rw [decide_eq_true e, decide_eq_false (by simpa using e)]; rfl
    · rw [decide_eq_false e, decide_eq_true e]; simp
  rw [hsp]
  generalize (l.any fun x => !allB nchB x) = b at *
  simp only [aPd_mk] at *
  refine PC.enter 11 [.tmp 2] [1] Go.Proofs.Tryz.func21 rfl rfl rfl rfl rfl (by simp) (AWp.of ?_); simp only [go_sem]
  repeat (first | ((with_reducible refine AWp.ofC ?_ ?_); (focus exact rfl); simp only [go_sem]) | ((with_reducible refine an ?_ ?_); focus exact Au))
  repeat ((with_reducible refine an ?_ ?_); focus exact As)
  refine GCall.use (ab b) (fun _ => ⟨At, (hc).val.use ⟨rfl, rfl⟩⟩) ?_; simp only [go_sem]
  repeat ((with_reducible refine an ?_ ?_); focus exact As)
  repeat (first | ((with_reducible refine AWp.ofC ?_ ?_); (focus exact rfl); simp only [go_sem]) | ((with_reducible refine an ?_ ?_); focus exact Au))
  refine ret_eq ?_; simp only [go_sem]
set_option maxHeartbeats 4000000 in
theorem law49_PruneTruths (ps : List Pr) (c d : List Int) (t : Pd) : PC Go.Proofs.Tryz.prog 4 [aTr ps, aInts c, aInts d, aPd t] (ab true) := by
  have haw := law49_awake
  have hbig := law49_big ps
  have hhu := law49_huge t
  have hhz := @not_huge t
  have hsm := @bigF_sm ps
  have hsize := fun h => law49_size ps h
  have hfc := fun h => ref25_CutFault ps h c
  have hfd := fun h => ref25_CutFault ps h d
  have hch := fun h => law49_channels t h
  have hz1 : ¬ 300 < hugeF t 0 0 → szF t ≤ 300 := fun h => hhz h
  generalize hn : allB nchB t = nch at *
  obtain ⟨k, n, p, q, s, l⟩ := t
  simp only [aPd_mk] at *
  refine PC.enter 144 [.tmp 8] [4, 7, 9, 11] Go.Proofs.Tryz.func4 rfl rfl rfl rfl rfl (by simp) (AWp.of ?_); simp only [go_sem]
  repeat (first | ((with_reducible refine AWp.ofC ?_ ?_); (focus exact rfl); simp only [go_sem]) | ((with_reducible refine an ?_ ?_); focus exact Au))
  repeat ((with_reducible refine an ?_ ?_); focus exact As)
  refine (haw).val.use ?_; simp only [go_sem]
  repeat (first | ((with_reducible refine AWp.ofC ?_ ?_); (focus exact rfl); simp only [go_sem]) | ((with_reducible refine an ?_ ?_); focus exact Au))
  repeat ((with_reducible refine an ?_ ?_); focus exact As)
  refine (hbig).val.use ?_; simp only [go_sem]
  repeat ((with_reducible refine an ?_ ?_); focus exact As)
  refine GCall.use (ab (decide (300 < hugeF (.mk k n p q s l) 0 0))) (fun _ => ⟨At, (hhu).val.use ⟨rfl, rfl⟩⟩) ?_; simp only [go_sem]
  repeat ((with_reducible refine an ?_ ?_); focus exact As)
  refine GCall.use (ai (off ps ps.length)) ?_ ?_
  · intro g; exact ⟨At, (hsize (hsm g.1)).val.use ⟨rfl, rfl⟩⟩
  simp only [go_sem]
  repeat ((with_reducible refine an ?_ ?_); focus exact As)
  refine GCall.use (ai (givenF ps [c] [])) ?_ ?_
  · intro g; exact ⟨At, (hfc (hsm g.1.1)).val.use ⟨rfl, rfl⟩⟩
  simp only [go_sem]
  repeat ((with_reducible refine an ?_ ?_); focus exact As)
  refine GCall.use (ai (givenF ps [d] [])) ?_ ?_
  · intro g; exact ⟨At, (hfd (hsm g.1.1.1)).val.use ⟨rfl, rfl⟩⟩
  simp only [go_sem]
  repeat ((with_reducible refine an ?_ ?_); focus exact As)
  refine GCall.use (ab (!nch)) ?_ ?_
  · intro g; exact ⟨At, (hch (by have := hz1 g.1.1.1.2; omega)).val.use ⟨rfl, rfl⟩⟩
  simp only [go_sem]
  repeat ((with_reducible refine an ?_ ?_); focus exact As)
  repeat (first | ((with_reducible refine AWp.ofC ?_ ?_); (focus exact rfl); simp only [go_sem]) | ((with_reducible refine an ?_ ?_); focus exact Au))
  refine ⟨fun h1 => ?_, fun h1 => ?_⟩
  · repeat (first | ((with_reducible refine AWp.ofC ?_ ?_); (focus exact rfl); simp only [go_sem]) | ((with_reducible refine an ?_ ?_); focus exact Au))
    refine ret_eq ?_; simp only [go_sem]
  intro h2 h3 h4 h5 h6
  have hs := hsm h1
  have hz := hz1 h2
  obtain ⟨hv, hcl, hcr, _⟩ := givenF_zero h4
  obtain ⟨_, hdl, _, _⟩ := givenF_zero h5
  have hpl : ps.length ≤ 10 := by unfold bigF at h1; simp at h1; omega
  have hjg := join_given h4 h5
  have hjl := join_len (c := c) (d := d) (by omega)
  have hle : ∀ p, p < ps.length → cAt c p ≤ cAt (joinL c d) p := fun p hp => by rw [join_cAt (by omega) (by omega)]; split <;> omega
  have hD := prune_Drop ps hs c (by omega)
  have hDe : aDrop ps c = .tup [aTr (dropF ps c), ai 0] := by unfold aDrop; rw [if_neg (by simpa using h4)]
  rw [hDe] at hD
  have hR := prune_Rewrite (.mk k n p q s l) (by omega) c (by omega)
  have hJ := cut_Join ps hs c d
  have hJe : aComb ps c d (fun x y => if x < y then y else x) = .tup [aInts (joinL c d), ai 0] := by unfold aComb; rw [if_neg (by simpa using given1 h4 h5)]; rfl
  rw [hJe] at hJ
  have hn' : allB nchB (.mk k n p q s l) = true := hn.trans h6
  have hB := evaluate_Bool ps hs (joinL c d) (by omega) (.mk k n p q s l) (by omega) hn'
  have htr := fun he => truths h4 hjg hle (.mk k n p q s l) hn' he
  have hul := dropF_length hcl
  have hsz := rwF_size c (.mk k n p q s l)
  have hB2 := fun h => evaluate_Bool (dropF ps c) (hs.drop c) (subL (joinL c d) c) (by unfold subL; rw [List.length_zipWith]; omega) (rwF c (.mk k n p q s l)) (by omega) h
  unfold aBool at hB hB2
  clear haw hbig hhu hhz hz1 hsize hfc hfd hch hsm hDe hJe
  generalize atE ps (joinL c d) (.mk k n p q s l) 2 = e1 at *
  generalize truF (cutO ps (joinL c d) fun _ _ => 0) (.mk k n p q s l) = b1 at *
  generalize atE (dropF ps c) (subL (joinL c d) c) (rwF c (.mk k n p q s l)) 2 = e2 at *
  generalize truF (cutO (dropF ps c) (subL (joinL c d) c) fun _ _ => 0) (rwF c (.mk k n p q s l)) = b2 at *
  generalize hRR : rwRes (.mk k n p q s l) c = RR at *
  obtain ⟨R, f⟩ := RR
  simp only at hR htr
  generalize rwF c (.mk k n p q s l) = rw at *
  have hcj : c.length = (joinL c d).length := by omega
  have hjg2 : (joinL c d).length = c.length := hjl
  generalize hj : joinL c d = j at *
  have hci : (j.length : Int) = c.length := by omega
  refine AWp.only [1, 2, 4, 7] ?_
  simp only [go_sem]
  repeat (first | ((with_reducible refine AWp.ofC ?_ ?_); (focus exact rfl); simp only [go_sem]) | ((with_reducible refine an ?_ ?_); focus exact Au))
  repeat ((with_reducible refine an ?_ ?_); focus exact As)
  refine (hD).val.use ?_; simp only [go_sem]
  repeat (first | ((with_reducible refine AWp.ofC ?_ ?_); (focus exact rfl); simp only [go_sem]) | ((with_reducible refine an ?_ ?_); focus exact Au))
  intro b9
  repeat (first | ((with_reducible refine AWp.ofC ?_ ?_); (focus exact rfl); simp only [go_sem]) | ((with_reducible refine an ?_ ?_); focus exact Au))
  obtain ⟨k2, n2, p2, q2, s2, l2⟩ := R
  simp only [aPd_mk] at *
  repeat ((with_reducible refine an ?_ ?_); focus exact As)
  refine (hR).val.use ?_; simp only [go_sem]
  repeat (first | ((with_reducible refine AWp.ofC ?_ ?_); (focus exact rfl); simp only [go_sem]) | ((with_reducible refine an ?_ ?_); focus exact Au))
  intro b11
  repeat (first | ((with_reducible refine AWp.ofC ?_ ?_); (focus exact rfl); simp only [go_sem]) | ((with_reducible refine an ?_ ?_); focus exact Au))
  repeat ((with_reducible refine an ?_ ?_); focus exact As)
  refine (hJ).val.use ?_; simp only [go_sem]
  repeat (first | ((with_reducible refine AWp.ofC ?_ ?_); (focus exact rfl); simp only [go_sem, hci]) | ((with_reducible refine an ?_ ?_); focus exact Au))
  repeat ((with_reducible refine an ?_ ?_); focus exact As)
  refine (hB).val.use ?_; simp only [go_sem]
  repeat (first | ((with_reducible refine AWp.ofC ?_ ?_); (focus exact rfl); simp only [go_sem]) | ((with_reducible refine an ?_ ?_); focus exact Au))
  refine ⟨fun h7 => ?_, fun h7 => ?_⟩
  · repeat (first | ((with_reducible refine AWp.ofC ?_ ?_); (focus exact rfl); simp only [go_sem]) | ((with_reducible refine an ?_ ?_); focus exact Au))
    refine ret_eq ?_; simp only [go_sem]
    rcases h7 with h7 | h7
    · rw [decide_eq_false h7]; rfl
    · by_cases e : e1 = 0
      · rw [decide_eq_true e]; rfl
      · rw [decide_eq_false e]; rfl
  intro h8
  obtain ⟨g1, g2, g3, g4⟩ := (htr h7).resolve_left h8
  obtain ⟨gR, rfl⟩ := Prod.mk.inj g1
  subst h7
  subst g4
  have hB2 := hB2 g2
  rw [← gR] at hB2
  simp only [aPd_mk] at hB2
  have hsl : (subL j c).length = j.length := by unfold subL; rw [List.length_zipWith]; omega
  have hsg : ∀ i (hi : i < j.length), (subL j c)[i]? = some (j[i] - c[i]'(by rw [hcj]; exact hi)) := fun i hi => by rw [List.getElem?_eq_getElem (by omega)]; unfold subL; rw [List.getElem_zipWith]
  have hjr := (givenF_zero hjg).2.2.1
  have hj64 : ∀ i (hi : i < j.length), 0 ≤ j[i] ∧ j[i] ≤ 1000000 ∧ 0 ≤ c[i]'(by rw [hcj]; exact hi) ∧ c[i]'(by rw [hcj]; exact hi) ≤ 1000000 := fun i hi => by
    have hp : i < ps.length := by omega
    obtain ⟨x1, x2⟩ := inRangeF_get hjr (by omega) hp
    obtain ⟨y1, y2⟩ := inRangeF_get hcr hcl hp
    have := hs.evs _ (List.getElem_mem hp)
    exact ⟨x1, by omega, y1, by omega⟩
  generalize subL j c = z at *
  refine AWp.only [1, 9, 11, 12, 13, 15] ?_
  simp only [go_sem]
  repeat (first | ((with_reducible refine AWp.ofC ?_ ?_); (focus exact rfl); simp only [go_sem]) | ((with_reducible refine an ?_ ?_); focus exact Au))
  intro b17
  repeat (first | ((with_reducible refine AWp.ofC ?_ ?_); (focus exact rfl); simp only [go_sem]) | ((with_reducible refine an ?_ ?_); focus exact Au))
  refine AWp.range' j.length [] [1, 9, 11, 12, 13, 15, 17, 105] (fun k vs L => L = [(b17, .row 3 1 ((fillZ z j.length k).map ai) j.length)]) (by omega) rfl rfl rfl (by rw [fillZ_zero, replicate_ai]) ?_ ?_
  · rintro k vs L' hk - rfl
    have hkc : k < c.length := by omega
    have hga := getD_map (f := ai) hk
    have hgb := getD_map (f := ai) hkc
    have hfl := fillZ_length (i := k) hsl (by omega)
    have hfs := fillZ_set hsl hk
    obtain ⟨hkz, hzk⟩ := List.getElem?_eq_some_iff.1 (hsg k hk)
    rw [hzk] at hfs
    obtain ⟨x1, x2, x3, x4⟩ := hj64 k hk
    have hkf : k < (fillZ z j.length k).length := by omega
    have hgf := getD_map (f := ai) hkf
    simp only [go_sem]
    repeat ((with_reducible refine an ?_ ?_); focus exact As)
    refine AWp.of ?_; simp only [go_sem]
    refine AWp.mix mixed [0, 1, 2, 3, 4, 5, 6, 7, 8, 9, 10] (.step 11 (.step 12 .done .done) .done) (by kernel_rfl) ?_; simp only [go_sem, hga, hgb]
    repeat ((with_reducible refine an ?_ ?_); focus exact As)
    refine ⟨_, List.Sublist.refl _, ?_⟩
    rw [← hfs, ← map_set_ai, hgf]
  · rintro vs L' - rfl
    rw [fillZ_full hsl]
    refine AWp.view [true] [(17, .sl 1 (z.map ai))] (LVw.refl _) (fun p hp => by simp only [List.mem_singleton] at hp; subst hp; exact Vw.ofLs (if_pos rfl) (by simp; omega)) ?_
    simp only [go_sem]
    repeat (first | ((with_reducible refine AWp.ofC ?_ ?_); (focus exact rfl); simp only [go_sem]) | ((with_reducible refine an ?_ ?_); focus exact Au))
    rcases g3 with rfl | rfl
    · repeat ((with_reducible refine an ?_ ?_); focus exact As)
      refine (hB2).val.use ?_; simp only [go_sem]
      repeat (first | ((with_reducible refine AWp.ofC ?_ ?_); (focus exact rfl); simp only [go_sem, Int.reduceEq]) | ((with_reducible refine an ?_ ?_); focus exact Au))
      refine ret_eq ?_; simp only [go_sem]
    · repeat ((with_reducible refine an ?_ ?_); focus exact As)
      refine (hB2).val.use ?_; simp only [go_sem]
      repeat (first | ((with_reducible refine AWp.ofC ?_ ?_); (focus exact rfl); simp only [go_sem, Int.reduceEq]) | ((with_reducible refine an ?_ ?_); focus exact Au))
      refine ret_eq ?_; simp only [go_sem]
end Go.AL
end
section
/- The layer AL, last part: from the contracts to the statements about a call. No condition. -/
namespace Go.AL
open Go Go.RowKit Go.ChangeShapes Go.WideShapes Go.ChangeAt

theorem Fr.below {W W' : World} (h : Fr W (keysOf []) W') : Below W.heap.size W W' := ⟨h.os, h.tape, h.output, h.size, fun k hk => h.block k hk (by rintro ⟨x, hx, _⟩; cases hx)⟩
theorem LRel.empty (W : World) (hg : ∀ g x, GV g = some x → Rel W (fun b => b < W.heap.size) x (.pointer (some ⟨g, 0, none⟩))) : LRel W (fun b => b < W.heap.size) [] := ⟨fun _ h => h, (by intro x hx; cases hx), List.nodup_nil, (by intro x hx; cases hx), hg⟩
/-- A contract whose answer is a plain value, as a statement about the call. -/
theorem PC.calls {P : Program} {f : FuncId} {args : List AV} {x : Value} (h : PC P f args (.v x)) {W : World} {vs : List Value} (hg : ∀ g x, GV g = some x → Rel W (fun b => b < W.heap.size) x (.pointer (some ⟨g, 0, none⟩))) (hr : Rels W (fun b => b < W.heap.size) args vs) :
    Calls P f vs.toArray W fun e W' => e = .returned x ∧ Below W.heap.size W W' :=
  ((h.2 0 W _ vs (LRel.empty W hg) hr).calls (fun _ d hd => by cases hd)).mono fun e W' ⟨v, r, L', A', he, ⟨hr, _⟩, hf, _, _, _, hv⟩ => by
    subst he hr
    cases hv
    exact ⟨rfl, hf.below⟩
/-! ### What is read of the arguments -/
/-- Whatever is read at type t is E of some value. -/
def Rd {H : Type} (enc : TypeId × Value → H) (P : Program) (W : World) (t : TypeId) (k : Nat) {α : Type} (E : α → AV) (ok : α → Prop) : Prop :=
  ∀ fuel cs x, DataW.trod enc P W 0 (fun _ => true) true fuel t cs = some x → ∃ y, ok y ∧ elOk k (E y) ∧ cs.length = k ∧ ∀ (i : Nat) c u, (E y).cells[i]? = some c → cs[i]? = some u → Rel W (fun b => b < W.heap.size) c u
section
variable {H : Type} {enc : TypeId × Value → H} {P : Program} {W : World} {t : TypeId}
theorem Rd.int (ht : P.underlying t = some (.int .i64)) : Rd enc P W t 1 ai (fun n => (Lit.int .i64 n).wf = true) := by
  intro fuel cs x h
  obtain ⟨n, rfl, _, hw⟩ := DataW.trod_int ht h
  refine ⟨n, hw, ⟨rfl, rfl⟩, rfl, fun i c u h1 h2 => ?_⟩
  cases i with
  | zero => cases h1; cases h2; exact .v _
  | succ i => cases h2
theorem Rd.str (ht : P.underlying t = some .string) : Rd enc P W t 1 (fun s => .v (.string s)) (fun _ => True) := by
  intro fuel cs x h
  obtain ⟨s, rfl, _, hw⟩ := DataW.trod_string ht h
  refine ⟨s, trivial, ⟨rfl, rfl⟩, rfl, fun i c u h1 h2 => ?_⟩
  cases i with
  | zero => cases h1; cases h2; exact .v _
  | succ i => cases h2
theorem ofFin {α : Type} {len : Nat} {Q : Nat → α → Prop} (h : ∀ i, i < len → ∃ y, Q i y) : ∃ l : List α, l.length = len ∧ ∀ (i : Nat) (hi : i < l.length), Q i l[i] := by
  refine ⟨List.ofFn fun i : Fin len => Classical.choose (h i i.2), List.length_ofFn, fun i hi => ?_⟩
  rw [List.getElem_ofFn]
  exact Classical.choose_spec (h i (by simpa using hi))
theorem add_none (b off n : Nat) : (⟨b, off, none⟩ : Addr).add n = ⟨b, off + n, none⟩ := by
  unfold Addr.add; split
  · rename_i h; rw [h]; rfl
  · rfl
theorem Rd.slice {α : Type} {E : α → AV} {ok : α → Prop} {e : TypeId} {k : Nat} (ht : P.underlying t = some (.slice e)) (hk : P.cellsOf e = k) (h0 : 0 < k) (he : Rd enc P W e k E ok) :
    Rd enc P W t 1 (fun l : List α => .sl k (l.map E)) (fun l => l.length ≤ maxLen ∧ ∀ y ∈ l, ok y) := by
  intro fuel cs x h
  rcases DataW.trod_slice ht h with ⟨rfl, _⟩ | ⟨a, len, cap, elems, rest, n, _, rfl, _, _, hl, hm, hlen, hel, _, _⟩
  · refine ⟨[], ⟨by simp, by simp⟩, ⟨rfl, rfl⟩, rfl, fun i c u h1 h2 => ?_⟩
    cases i with
    | zero => cases h1; cases h2; exact .sl0 k none 0 (by simp)
    | succ i => cases h2
  · rw [hk] at hel
    obtain ⟨l, hll, hli⟩ := ofFin (len := len) (Q := fun i y => ∃ cs : List Value, ok y ∧ elOk k (E y) ∧ cs.length = k ∧ (∀ m, m < k → W.cell? ((a.add (i * k)).add m) = cs[m]?) ∧ ∀ (m : Nat) c u, (E y).cells[m]? = some c → cs[m]? = some u → Rel W (fun b => b < W.heap.size) c u) fun i hi => by
      have h1 := hel i hi
      rw [List.getElem?_eq_getElem (by omega), Option.bind_eq_some_iff] at h1
      obtain ⟨cs, hc, ht⟩ := h1
      obtain ⟨y, k1, k2, k3, k4⟩ := he _ _ _ ht
      exact ⟨y, cs, k1, k2, k3, (World.cells?_some hc).2.2, k4⟩
    refine ⟨l, ⟨by omega, fun y hy => ?_⟩, ⟨rfl, rfl⟩, rfl, fun i c u h1 h2 => ?_⟩
    · obtain ⟨i, hi, rfl⟩ := List.getElem_of_mem hy
      obtain ⟨_, h, _⟩ := hli i (by omega); exact h
    · cases i with
      | succ i => cases h2
      | zero =>
        cases h1; cases h2
        by_cases hz : len = 0
        · subst hz
          rw [List.length_eq_zero_iff.1 hll]
          exact .sl0 k _ cap hm
        · obtain ⟨b, off, spot⟩ := a
          obtain ⟨cs0, _, _, c3, c4, _⟩ := hli 0 (by omega)
          have hs : spot = none := by
            have := c4 0 h0
            have e0 : ∀ a : Addr, a.add 0 = a := fun _ => rfl
            rw [Nat.zero_mul, e0, e0, List.getElem?_eq_getElem (by omega)] at this
            cases spot with
            | none => rfl
            | some s =>
              exfalso
              unfold World.cell? at this
              split at this
              · rw [if_pos (show (some s).isSome = true from rfl)] at this; cases this
              · cases this
          subst hs
          have cell : ∀ (i : Nat) (hi : i < len) (m : Nat), m < k → ∃ u, W.cell? ⟨b, off + (i * k + m), none⟩ = some u ∧ ∀ c, (E (l[i]'(by omega))).cells[m]? = some c → Rel W (fun b => b < W.heap.size) c u := fun i hi m hm => by
            obtain ⟨cs, _, _, c3, c4, c5⟩ := hli i (by omega)
            have := c4 m hm
            rw [add_none, add_none, Nat.add_assoc, List.getElem?_eq_getElem (by omega)] at this
            exact ⟨_, this, fun c hc => c5 m c _ hc (List.getElem?_eq_getElem (by omega))⟩
          have hA : b < W.heap.size := by
            obtain ⟨u, hu, _⟩ := cell 0 (by omega) 0 h0
            unfold World.cell? at hu
            cases hb : W.heap[b]? with
            | none => simp [hb] at hu
            | some o => exact (Array.getElem?_eq_some_iff.1 hb).1
          have := Rel.sl (w := W) (A := fun b => b < W.heap.size) k (l.map E) b off cap (fun j => (W.cell? ⟨b, off + j, none⟩).getD undef) hA (by rw [List.length_map]; omega) hm
            (fun x hx => by
              obtain ⟨y, hy, rfl⟩ := List.mem_map.1 hx
              obtain ⟨i, hi, rfl⟩ := List.getElem_of_mem hy
              obtain ⟨cs, _, c2, _⟩ := hli i (by omega)
              exact c2)
            (fun j hj => by
              rw [List.length_map, hll] at hj
              have h1 : j / k < len := (Nat.div_lt_iff_lt_mul h0).2 hj
              obtain ⟨u, hu, _⟩ := cell (j / k) h1 (j % k) (Nat.mod_lt _ h0)
              have e : j / k * k + j % k = j := Nat.div_add_mod' j k
              rw [e] at hu
              rw [hu]; rfl)
            (fun i x j y hx hy => by
              rw [List.getElem?_map, Option.map_eq_some_iff] at hx
              obtain ⟨z, hz, rfl⟩ := hx
              obtain ⟨hi, rfl⟩ := List.getElem?_eq_some_iff.1 hz
              obtain ⟨cs, _, c2, _⟩ := hli i (by omega)
              have hj : j < k := by have := (List.getElem?_eq_some_iff.1 hy).1; have := c2.1; omega
              obtain ⟨u, hu, hr⟩ := cell i (by omega) j hj
              rw [hu]
              exact hr _ hy)
          rw [List.length_map, hll] at this
          exact this
/-! ### The statement's end -/
theorem trodAll_stays {W' : World} (hl : laidOutB P = true) (hb : Below W.heap.size W W') : ∀ {ts : List TypeId} {vs : List Value} {ds : List (DataW H)} {ps : List MemPlace}, (∀ t ∈ ts, P.readableRec t = true ∧ t < P.types.size) → DataW.TrodAll enc P W 0 (fun _ => true) true ts vs ds ps →
    DataW.TrodAll enc P W' 0 (fun b => decide (b < W.heap.size)) true ts vs ds ps
  | [], _, _, _, _, h => by
    obtain ⟨rfl, rfl, rfl⟩ := trodAll_nil h
    rfl
  | t :: ts, _, _, _, ht, h => by
    have hlt := h.lt
    obtain ⟨v, vs1, d, ds1, a, b, rfl, rfl, rfl, h1, h2⟩ := trodAll_cons h
    exact ⟨a, b, Below.trod hl (ht t List.mem_cons_self).1 (ht t List.mem_cons_self).2 h1 hb (fun x hx => hlt x (List.mem_append_left _ hx)), trodAll_stays hl hb (fun t' ht' => ht t' (List.mem_cons_of_mem _ ht')) h2, rfl⟩
/-- It returned true, and of what was there nothing turned. -/
theorem post_true {f : Func} {s : ChangeSpec} {fresh handsOn : Bool} {W' : World} {args : Array Value} {ds : List (DataW H)} {before : List MemPlace} {tb : TypeId} (hl : laidOutB P = true)
    (hW : DataW.Whole enc P f.params.toList s.vars false W args.toList ds [] before) (hv : s.vars = []) (hs : s.fn H (ds ++ []) = { results := [.lit (.bool true)], args := ds })
    (hr : f.resultTypes = #[tb]) (ht : P.underlying tb = some .bool) (hp : ∀ t ∈ f.params.toList, P.readableRec t = true ∧ t < P.types.size) (hb : Below W.heap.size W W') :
    s.post enc P f false fresh handsOn false W args (.bool true) W' := by
  have hW0 := hW
  obtain ⟨p, q, hA, hV, rfl, _, _⟩ := hW0
  refine ⟨ds, [], p ++ q, [], p, [], hW, ?_, ?_, ?_, hb.frame _, fun h => by cases h⟩
  · rw [hs, hr]
    exact ⟨[], [], ⟨1, by simp [DataW.trod, Value.cells, ht]⟩, rfl, rfl⟩
  · rw [hs]
    exact trodAll_stays hl hb hp hA
  · rw [hs, hv]; rfl
end
end Go.AL
end
section
/- The layer AL: structs as arguments. No condition. -/
namespace Go.AL
open Go Go.RowKit Go.ChangeShapes Go.WideShapes Go.ChangeAt
section
variable {H : Type} {enc : TypeId × Value → H} {P : Program} {W : World} {t : TypeId}
theorem Rd.map {α β : Type} {k : Nat} {E : α → AV} {E' : β → AV} {ok : α → Prop} {ok' : β → Prop} (f : α → β) (hE : ∀ y, E y = E' (f y)) (hok : ∀ y, ok y → ok' (f y)) (h : Rd enc P W t k E ok) : Rd enc P W t k E' ok' := by
  intro fuel cs x hx
  obtain ⟨y, k1, k2, k3, k4⟩ := h fuel cs x hx
  exact ⟨f y, hok y k1, by rw [← hE]; exact k2, k3, by rw [← hE]; exact k4⟩
/-- Whatever is read at types ts, of one cell each, is E of some value. -/
def RdL (enc : TypeId × Value → H) (P : Program) (W : World) (ts : List TypeId) {α : Type} (E : α → List AV) (ok : α → Prop) : Prop :=
  ∀ (n : Nat) (cs : List Value) (xs : List (DataW H × List MemPlace)), xs.length = ts.length → cs.length = ts.length →
    (∀ (i : Nat) t, ts[i]? = some t → DataW.trod enc P W 0 (fun _ => true) true n t ((cs.drop i).take 1) = xs[i]?) →
    ∃ y, ok y ∧ (E y).length = ts.length ∧ (E y).all one = true ∧ ∀ (i : Nat) c u, (E y)[i]? = some c → cs[i]? = some u → Rel W (fun b => b < W.heap.size) c u
theorem RdL.nil : RdL enc P W [] (fun _ : Unit => []) (fun _ => True) := by
  intro n cs xs _ _ _
  exact ⟨(), trivial, rfl, rfl, fun i c u h => by simp at h⟩
theorem RdL.cons {α β : Type} {E : α → AV} {ok : α → Prop} {ts : List TypeId} {F : β → List AV} {ok' : β → Prop} (h : Rd enc P W t 1 E ok) (h1 : ∀ y, one (E y) = true ∧ (E y).cells = [E y]) (hs : RdL enc P W ts F ok') :
    RdL enc P W (t :: ts) (fun y : α × β => E y.1 :: F y.2) (fun y => ok y.1 ∧ ok' y.2) := by
  intro n cs xs hx hc hi
  match xs, cs, hx, hc with
  | x :: xs, u :: cs, hx, hc =>
    have h0 := hi 0 t rfl
    simp only [List.drop_zero, List.take_succ_cons, List.take_zero, List.getElem?_cons_zero] at h0
    obtain ⟨y, k1, _, _, k4⟩ := h _ _ _ h0
    obtain ⟨z, g1, g2, g3, g4⟩ := hs n cs xs (by simpa using hx) (by simpa using hc) fun i t' ht => by
      have := hi (i + 1) t' (by simpa using ht)
      simpa using this
    refine ⟨(y, z), ⟨k1, g1⟩, by simp [g2], by simp [g3, (h1 y).1], fun i c u' hcc hu => ?_⟩
    cases i with
    | zero => cases hcc; cases hu; exact k4 0 _ _ (by rw [(h1 y).2]; rfl) rfl
    | succ i => exact g4 i c u' (by simpa using hcc) (by simpa using hu)
theorem Rd.struct {fs : Array Field} {α : Type} {ts : List TypeId} {F : α → List AV} {ok : α → Prop} (ht : P.underlying t = some (.struct fs)) (hts : fs.toList.map (·.type) = ts) (hof : fs.toList.map (·.offset) = List.range ts.length) (hk : P.cellsOf t = ts.length)
    (hc : (ts.all fun t => P.cellsOf t == 1) = true) (h : RdL enc P W ts F ok) : Rd enc P W t ts.length (fun y => .agg (F y)) ok := by
  intro fuel cs x hx
  obtain ⟨xs, n, _, _, hl, hlen, hf⟩ := DataW.trod_struct ht hx
  have hfl : fs.size = ts.length := by rw [← hts]; simp
  obtain ⟨y, k1, k2, k3, k4⟩ := h n cs xs (by omega) (by omega) fun i t' ht' => by
    have hi : i < ts.length := (List.getElem?_eq_some_iff.1 ht').1
    have hg : fs[i]? = some fs[i] := Array.getElem?_eq_getElem (by omega)
    have e1 : (fs[i]).type = t' := by
      rw [← hts, List.getElem?_map, Array.getElem?_toList, hg] at ht'
      exact Option.some.inj ht'
    have e2 : (fs[i]).offset = i := by
      have : (fs.toList.map (·.offset))[i]? = some i := by rw [hof, List.getElem?_range hi]
      rw [List.getElem?_map, Array.getElem?_toList, hg] at this
      exact Option.some.inj this
    have := hf i _ hg
    have hct : P.cellsOf t' = 1 := by
      have := List.all_eq_true.1 hc _ (List.mem_of_getElem? ht')
      simpa using this
    rw [e1, e2, hct] at this
    exact this
  exact ⟨y, k1, ⟨k2, k3⟩, by omega, k4⟩
/-- An argument that is a struct. -/
theorem Rd.agg {α : Type} {k : Nat} {E : α → AV} {F : α → List AV} {ok : α → Prop} (hE : ∀ y, E y = .agg (F y)) (h : Rd enc P W t k E ok) {v : Value} {d : DataW H} {ps : List MemPlace} (ha : ∃ us, v = .agg us)
    (hd : DataW.Trod enc P W 0 (fun _ => true) true t v d ps) : ∃ y, ok y ∧ Rel W (fun b => b < W.heap.size) (E y) v := by
  obtain ⟨us, rfl⟩ := ha
  obtain ⟨fuel, hf⟩ := hd
  obtain ⟨y, k1, k2, k3, k4⟩ := h _ _ _ hf
  refine ⟨y, k1, ?_⟩
  have e1 : (E y).cells = F y := by rw [hE]; rfl
  have e2 : (Value.agg us).cells.toList = us.toList := rfl
  have k5 := k2.1
  rw [e1] at k4 k5
  rw [e2] at k3 k4
  rw [hE]
  refine .agg _ _ ?_ fun i c u h1 h2 => k4 i c u h1 (by simpa using h2)
  rw [k5, ← k3]; simp
theorem okWide_agg {r : Go.Reach} {b : Nat} {fs : Array Field} {v : Value} (ht : P.underlying t = some (.struct fs)) (h : Value.okWide P W r b t v) : ∃ us, v = .agg us := by
  unfold Value.okWide at h
  rw [ht] at h
  obtain ⟨cs, h1, _⟩ := h
  exact ⟨cs, h1⟩
theorem Rd.one {α : Type} {E : α → AV} {ok : α → Prop} (h : Rd enc P W t 1 E ok) (h1 : ∀ y, (E y).cells = [E y]) {v : Value} {d : DataW H} {ps : List MemPlace} (hc : v.cells = #[v])
    (hd : DataW.Trod enc P W 0 (fun _ => true) true t v d ps) : ∃ y, ok y ∧ Rel W (fun b => b < W.heap.size) (E y) v := by
  obtain ⟨fuel, hf⟩ := hd
  rw [hc] at hf
  obtain ⟨y, k1, _, _, k4⟩ := h _ _ _ hf
  exact ⟨y, k1, k4 0 _ _ (by rw [h1]; rfl) rfl⟩
theorem okWide_cells {r : Go.Reach} {b : Nat} {e : TypeId} {v : Value} (ht : P.underlying t = some (.slice e)) (h : Value.okWide P W r b t v) : v.cells = #[v] := by
  cases v with
  | agg cs =>
    exfalso
    simp only [Value.okWide, ht, Cell.okWide, Cell.ok] at h
  | _ => rfl
end
end Go.AL
end
section
/- The layer AL: recursive types as arguments: reading with bounded fuel. No condition. -/
namespace Go.AL
open Go Go.RowKit Go.ChangeShapes Go.WideShapes Go.ChangeAt
/-- Whatever is read at type t with fuel of at most N is E of some value. -/
def RdF {H : Type} (enc : TypeId × Value → H) (P : Program) (W : World) (N : Nat) (t : TypeId) (k : Nat) {α : Type} (E : α → AV) (ok : α → Prop) : Prop :=
  ∀ fuel cs x, fuel ≤ N → DataW.trod enc P W 0 (fun _ => true) true fuel t cs = some x → ∃ y, ok y ∧ elOk k (E y) ∧ cs.length = k ∧ ∀ (i : Nat) c u, (E y).cells[i]? = some c → cs[i]? = some u → Rel W (fun b => b < W.heap.size) c u
section
variable {H : Type} {enc : TypeId × Value → H} {P : Program} {W : World} {t : TypeId}
theorem Rd.bounded {α : Type} {k : Nat} {E : α → AV} {ok : α → Prop} (h : Rd enc P W t k E ok) (N : Nat) : RdF enc P W N t k E ok := fun fuel cs x _ hx => h fuel cs x hx
theorem RdF.all {α : Type} {k : Nat} {E : α → AV} {ok : α → Prop} (h : ∀ N, RdF enc P W N t k E ok) : Rd enc P W t k E ok := fun fuel cs x hx => h fuel fuel cs x (Nat.le_refl _) hx
theorem RdF.mono {α : Type} {k : Nat} {E : α → AV} {ok : α → Prop} {N M : Nat} (h : RdF enc P W N t k E ok) (hM : M ≤ N) : RdF enc P W M t k E ok := fun fuel cs x hf hx => h fuel cs x (by omega) hx
theorem RdF.zero {α : Type} {k : Nat} {E : α → AV} {ok : α → Prop} : RdF enc P W 0 t k E ok := fun fuel cs x hf hx => by
  obtain rfl : fuel = 0 := by omega
  simp [DataW.trod] at hx
theorem RdF.map {α β : Type} {k : Nat} {N : Nat} {E : α → AV} {E' : β → AV} {ok : α → Prop} {ok' : β → Prop} (f : α → β) (hE : ∀ y, E y = E' (f y)) (hok : ∀ y, ok y → ok' (f y)) (h : RdF enc P W N t k E ok) : RdF enc P W N t k E' ok' := by
  intro fuel cs x hN hx
  obtain ⟨y, k1, k2, k3, k4⟩ := h fuel cs x hN hx
  exact ⟨f y, hok y k1, by rw [← hE]; exact k2, k3, by rw [← hE]; exact k4⟩
theorem RdF.slice {N : Nat} {α : Type} {E : α → AV} {ok : α → Prop} {e : TypeId} {k : Nat} (ht : P.underlying t = some (.slice e)) (hk : P.cellsOf e = k) (h0 : 0 < k) (he : RdF enc P W N e k E ok) :
    RdF enc P W (N + 1) t 1 (fun l : List α => .sl k (l.map E)) (fun l => l.length ≤ maxLen ∧ ∀ y ∈ l, ok y) := by
  intro fuel cs x hN h
  rcases DataW.trod_slice ht h with ⟨rfl, _⟩ | ⟨a, len, cap, elems, rest, n, hfu, rfl, _, _, hl, hm, hlen, hel, _, _⟩
  · refine ⟨[], ⟨by simp, by simp⟩, ⟨rfl, rfl⟩, rfl, fun i c u h1 h2 => ?_⟩
    cases i with
    | zero => cases h1; cases h2; exact .sl0 k none 0 (by simp)
    | succ i => cases h2
  · rw [hk] at hel
    obtain ⟨l, hll, hli⟩ := ofFin (len := len) (Q := fun i y => ∃ cs : List Value, ok y ∧ elOk k (E y) ∧ cs.length = k ∧ (∀ m, m < k → W.cell? ((a.add (i * k)).add m) = cs[m]?) ∧ ∀ (m : Nat) c u, (E y).cells[m]? = some c → cs[m]? = some u → Rel W (fun b => b < W.heap.size) c u) fun i hi => by
      have h1 := hel i hi
      rw [List.getElem?_eq_getElem (by omega), Option.bind_eq_some_iff] at h1
      obtain ⟨cs, hc, ht⟩ := h1
      obtain ⟨y, k1, k2, k3, k4⟩ := he _ _ _ (by omega) ht
      exact ⟨y, cs, k1, k2, k3, (World.cells?_some hc).2.2, k4⟩
    refine ⟨l, ⟨by omega, fun y hy => ?_⟩, ⟨rfl, rfl⟩, rfl, fun i c u h1 h2 => ?_⟩
    · obtain ⟨i, hi, rfl⟩ := List.getElem_of_mem hy
      obtain ⟨_, h, _⟩ := hli i (by omega); exact h
    · cases i with
      | succ i => cases h2
      | zero =>
        cases h1; cases h2
        by_cases hz : len = 0
        · subst hz
          rw [List.length_eq_zero_iff.1 hll]
          exact .sl0 k _ cap hm
        · obtain ⟨b, off, spot⟩ := a
          obtain ⟨cs0, _, _, c3, c4, _⟩ := hli 0 (by omega)
          have hs : spot = none := by
            have := c4 0 h0
            have e0 : ∀ a : Addr, a.add 0 = a := fun _ => rfl
            rw [Nat.zero_mul, e0, e0, List.getElem?_eq_getElem (by omega)] at this
            cases spot with
            | none => rfl
            | some s =>
              exfalso
              unfold World.cell? at this
              split at this
              · rw [if_pos (show (some s).isSome = true from rfl)] at this; cases this
              · cases this
          subst hs
          have cell : ∀ (i : Nat) (hi : i < len) (m : Nat), m < k → ∃ u, W.cell? ⟨b, off + (i * k + m), none⟩ = some u ∧ ∀ c, (E (l[i]'(by omega))).cells[m]? = some c → Rel W (fun b => b < W.heap.size) c u := fun i hi m hm => by
            obtain ⟨cs, _, _, c3, c4, c5⟩ := hli i (by omega)
            have := c4 m hm
            rw [add_none, add_none, Nat.add_assoc, List.getElem?_eq_getElem (by omega)] at this
            exact ⟨_, this, fun c hc => c5 m c _ hc (List.getElem?_eq_getElem (by omega))⟩
          have hA : b < W.heap.size := by
            obtain ⟨u, hu, _⟩ := cell 0 (by omega) 0 h0
            unfold World.cell? at hu
            cases hb : W.heap[b]? with
            | none => simp [hb] at hu
            | some o => exact (Array.getElem?_eq_some_iff.1 hb).1
          have := Rel.sl (w := W) (A := fun b => b < W.heap.size) k (l.map E) b off cap (fun j => (W.cell? ⟨b, off + j, none⟩).getD undef) hA (by rw [List.length_map]; omega) hm
            (fun x hx => by
              obtain ⟨y, hy, rfl⟩ := List.mem_map.1 hx
              obtain ⟨i, hi, rfl⟩ := List.getElem_of_mem hy
              obtain ⟨cs, _, c2, _⟩ := hli i (by omega)
              exact c2)
            (fun j hj => by
              rw [List.length_map, hll] at hj
              have h1 : j / k < len := (Nat.div_lt_iff_lt_mul h0).2 hj
              obtain ⟨u, hu, _⟩ := cell (j / k) h1 (j % k) (Nat.mod_lt _ h0)
              have e : j / k * k + j % k = j := Nat.div_add_mod' j k
              rw [e] at hu
              rw [hu]; rfl)
            (fun i x j y hx hy => by
              rw [List.getElem?_map, Option.map_eq_some_iff] at hx
              obtain ⟨z, hz, rfl⟩ := hx
              obtain ⟨hi, rfl⟩ := List.getElem?_eq_some_iff.1 hz
              obtain ⟨cs, _, c2, _⟩ := hli i (by omega)
              have hj : j < k := by have := (List.getElem?_eq_some_iff.1 hy).1; have := c2.1; omega
              obtain ⟨u, hu, hr⟩ := cell i (by omega) j hj
              rw [hu]
              exact hr _ hy)
          rw [List.length_map, hll] at this
          exact this
/-- Whatever is read at types ts, of one cell each, is E of some value. -/
def RdFL (enc : TypeId × Value → H) (P : Program) (W : World) (N : Nat) (ts : List TypeId) {α : Type} (E : α → List AV) (ok : α → Prop) : Prop :=
  ∀ (n : Nat) (cs : List Value) (xs : List (DataW H × List MemPlace)), n ≤ N → xs.length = ts.length → cs.length = ts.length →
    (∀ (i : Nat) t, ts[i]? = some t → DataW.trod enc P W 0 (fun _ => true) true n t ((cs.drop i).take 1) = xs[i]?) →
    ∃ y, ok y ∧ (E y).length = ts.length ∧ (E y).all one = true ∧ ∀ (i : Nat) c u, (E y)[i]? = some c → cs[i]? = some u → Rel W (fun b => b < W.heap.size) c u
theorem RdFL.nil {N : Nat} : RdFL enc P W N [] (fun _ : Unit => []) (fun _ => True) := by
  intro n cs xs _ _ _ _
  exact ⟨(), trivial, rfl, rfl, fun i c u h => by simp at h⟩
theorem RdFL.cons {N : Nat} {α β : Type} {E : α → AV} {ok : α → Prop} {ts : List TypeId} {F : β → List AV} {ok' : β → Prop} (h : RdF enc P W N t 1 E ok) (h1 : ∀ y, one (E y) = true ∧ (E y).cells = [E y]) (hs : RdFL enc P W N ts F ok') :
    RdFL enc P W N (t :: ts) (fun y : α × β => E y.1 :: F y.2) (fun y => ok y.1 ∧ ok' y.2) := by
  intro n cs xs hN hx hc hi
  match xs, cs, hx, hc with
  | x :: xs, u :: cs, hx, hc =>
    have h0 := hi 0 t rfl
    simp only [List.drop_zero, List.take_succ_cons, List.take_zero, List.getElem?_cons_zero] at h0
    obtain ⟨y, k1, _, _, k4⟩ := h _ _ _ hN h0
    obtain ⟨z, g1, g2, g3, g4⟩ := hs n cs xs hN (by simpa using hx) (by simpa using hc) fun i t' ht => by
      have := hi (i + 1) t' (by simpa using ht)
      simpa using this
    refine ⟨(y, z), ⟨k1, g1⟩, by simp [g2], by simp [g3, (h1 y).1], fun i c u' hcc hu => ?_⟩
    cases i with
    | zero => cases hcc; cases hu; exact k4 0 _ _ (by rw [(h1 y).2]; rfl) rfl
    | succ i => exact g4 i c u' (by simpa using hcc) (by simpa using hu)
theorem RdF.struct {N : Nat} {fs : Array Field} {α : Type} {ts : List TypeId} {F : α → List AV} {ok : α → Prop} (ht : P.underlying t = some (.struct fs)) (hts : fs.toList.map (·.type) = ts) (hof : fs.toList.map (·.offset) = List.range ts.length) (hk : P.cellsOf t = ts.length)
    (hc : (ts.all fun t => P.cellsOf t == 1) = true) (h : RdFL enc P W N ts F ok) : RdF enc P W (N + 1) t ts.length (fun y => .agg (F y)) ok := by
  intro fuel cs x hN hx
  obtain ⟨xs, n, hfu, _, hl, hlen, hf⟩ := DataW.trod_struct ht hx
  have hfl : fs.size = ts.length := by rw [← hts]; simp
  obtain ⟨y, k1, k2, k3, k4⟩ := h n cs xs (by omega) (by omega) (by omega) fun i t' ht' => by
    have hi : i < ts.length := (List.getElem?_eq_some_iff.1 ht').1
    have hg : fs[i]? = some fs[i] := Array.getElem?_eq_getElem (by omega)
    have e1 : (fs[i]).type = t' := by
      rw [← hts, List.getElem?_map, Array.getElem?_toList, hg] at ht'
      exact Option.some.inj ht'
    have e2 : (fs[i]).offset = i := by
      have : (fs.toList.map (·.offset))[i]? = some i := by rw [hof, List.getElem?_range hi]
      rw [List.getElem?_map, Array.getElem?_toList, hg] at this
      exact Option.some.inj this
    have := hf i _ hg
    have hct : P.cellsOf t' = 1 := by
      have := List.all_eq_true.1 hc _ (List.mem_of_getElem? ht')
      simpa using this
    rw [e1, e2, hct] at this
    exact this
  exact ⟨y, k1, ⟨k2, k3⟩, by omega, k4⟩
end
end Go.AL
end
section
/- What is read of arguments that are traces or lists. No condition. -/
namespace Go.AL
open Go Go.RowKit
set_option maxRecDepth 100000
section
variable {H : Type} {enc : TypeId × Value → H} {W : World}
theorem rdInts : Rd enc Go.Proofs.Tryz.prog W 25 1 aInts (fun l => l.length ≤ maxLen) :=
  (Rd.slice Go.Proofs.Tryz.underlying25 (by kernel_rfl : Program.cellsOf Go.Proofs.Tryz.prog 3 = 1) (by decide) (Rd.int Go.Proofs.Tryz.underlying3)).map id (fun _ => rfl) (fun _ h => h.1)
theorem rdAsg : Rd enc Go.Proofs.Tryz.prog W 89 2 aAsg (fun _ => True) :=
  (Rd.struct (ts := [3, 3]) Go.Proofs.Tryz.underlying89 rfl rfl (by kernel_rfl) (by kernel_rfl)
    (.cons (Rd.int Go.Proofs.Tryz.underlying3) (fun _ => ⟨rfl, rfl⟩) (.cons (Rd.int Go.Proofs.Tryz.underlying3) (fun _ => ⟨rfl, rfl⟩) .nil))).map (fun (y : Int × Int × Unit) => (y.1, y.2.1)) (fun _ => rfl) (fun _ _ => trivial)
theorem rdAsgs : Rd enc Go.Proofs.Tryz.prog W 70 1 aAsgs (fun _ => True) :=
  (Rd.slice Go.Proofs.Tryz.underlying70 (by kernel_rfl : Program.cellsOf Go.Proofs.Tryz.prog 89 = 2) (by decide) rdAsg).map id (fun _ => rfl) (fun _ _ => trivial)
theorem rdVar : Rd enc Go.Proofs.Tryz.prog W 86 2 aVar (fun _ => True) :=
  (Rd.struct (ts := [9, 3]) Go.Proofs.Tryz.underlying86 rfl rfl (by kernel_rfl) (by kernel_rfl)
    (.cons (Rd.str Go.Proofs.Tryz.underlying9) (fun _ => ⟨rfl, rfl⟩) (.cons (Rd.int Go.Proofs.Tryz.underlying3) (fun _ => ⟨rfl, rfl⟩) .nil))).map (fun (y : ByteArray × Int × Unit) => (y.1, y.2.1)) (fun _ => rfl) (fun _ _ => trivial)
theorem rdVars : Rd enc Go.Proofs.Tryz.prog W 74 1 aVars (fun _ => True) :=
  (Rd.slice Go.Proofs.Tryz.underlying74 (by kernel_rfl : Program.cellsOf Go.Proofs.Tryz.prog 86 = 2) (by decide) rdVar).map id (fun _ => rfl) (fun _ _ => trivial)
theorem rdEv : Rd enc Go.Proofs.Tryz.prog W 72 5 aEv (fun _ => True) :=
  (Rd.struct (ts := [3, 3, 3, 3, 70]) Go.Proofs.Tryz.underlying72 rfl rfl (by kernel_rfl) (by kernel_rfl)
    (.cons (Rd.int Go.Proofs.Tryz.underlying3) (fun _ => ⟨rfl, rfl⟩) (.cons (Rd.int Go.Proofs.Tryz.underlying3) (fun _ => ⟨rfl, rfl⟩) (.cons (Rd.int Go.Proofs.Tryz.underlying3) (fun _ => ⟨rfl, rfl⟩)
      (.cons (Rd.int Go.Proofs.Tryz.underlying3) (fun _ => ⟨rfl, rfl⟩) (.cons rdAsgs (fun _ => ⟨rfl, rfl⟩) .nil)))))).map (fun (y : Int × Int × Int × Int × List (Int × Int) × Unit) => ⟨y.1, y.2.1, y.2.2.1, y.2.2.2.1, y.2.2.2.2.1⟩) (fun _ => rfl) (fun _ _ => trivial)
theorem rdEvs : Rd enc Go.Proofs.Tryz.prog W 73 1 aEvs (fun _ => True) :=
  (Rd.slice Go.Proofs.Tryz.underlying73 (by kernel_rfl : Program.cellsOf Go.Proofs.Tryz.prog 72 = 5) (by decide) rdEv).map id (fun _ => rfl) (fun _ _ => trivial)
theorem rdPr : Rd enc Go.Proofs.Tryz.prog W 76 3 aPr (fun _ => True) :=
  (Rd.struct (ts := [9, 74, 73]) Go.Proofs.Tryz.underlying76 rfl rfl (by kernel_rfl) (by kernel_rfl)
    (.cons (Rd.str Go.Proofs.Tryz.underlying9) (fun _ => ⟨rfl, rfl⟩) (.cons rdVars (fun _ => ⟨rfl, rfl⟩) (.cons rdEvs (fun _ => ⟨rfl, rfl⟩) .nil)))).map (fun (y : ByteArray × List (ByteArray × Int) × List Ev × Unit) => ⟨y.1, y.2.1, y.2.2.1⟩) (fun _ => rfl) (fun _ _ => trivial)
theorem rdPrs : Rd enc Go.Proofs.Tryz.prog W 22 1 aPrs (fun _ => True) :=
  (Rd.slice Go.Proofs.Tryz.underlying22 (by kernel_rfl : Program.cellsOf Go.Proofs.Tryz.prog 76 = 3) (by decide) rdPr).map id (fun _ => rfl) (fun _ _ => trivial)
theorem rdTr : Rd enc Go.Proofs.Tryz.prog W 24 1 aTr (fun _ => True) :=
  (Rd.struct (ts := [22]) Go.Proofs.Tryz.underlying24 rfl rfl (by kernel_rfl) (by kernel_rfl) (.cons rdPrs (fun _ => ⟨rfl, rfl⟩) .nil)).map (fun (y : List Pr × Unit) => y.1) (fun _ => rfl) (fun _ _ => trivial)
end
end Go.AL
end
section
/- What is read of arguments that are trees. No condition. -/
namespace Go.AL
open Go Go.RowKit
set_option maxRecDepth 100000
def aPdC : Pd → List AV | .mk k n p q s l => [ai k, ai n, ai p, ai q, astr s, .sl 6 (l.map aPd)]
theorem aPd_agg : ∀ y, aPd y = .agg (aPdC y) := fun ⟨k, n, p, q, s, l⟩ => by rw [aPd_mk]; rfl
section
variable {H : Type} {enc : TypeId × Value → H} {W : World}
theorem rdPredN : ∀ N, RdF enc Go.Proofs.Tryz.prog W N 28 6 aPd (fun _ => True)
  | 0 => .zero
  | N + 1 =>
    (RdF.struct (ts := [3, 3, 3, 3, 9, 26]) Go.Proofs.Tryz.underlying28 rfl rfl (by kernel_rfl) (by kernel_rfl)
      (.cons ((Rd.int Go.Proofs.Tryz.underlying3).bounded N) (fun _ => ⟨rfl, rfl⟩) (.cons ((Rd.int Go.Proofs.Tryz.underlying3).bounded N) (fun _ => ⟨rfl, rfl⟩) (.cons ((Rd.int Go.Proofs.Tryz.underlying3).bounded N) (fun _ => ⟨rfl, rfl⟩)
        (.cons ((Rd.int Go.Proofs.Tryz.underlying3).bounded N) (fun _ => ⟨rfl, rfl⟩) (.cons ((Rd.str Go.Proofs.Tryz.underlying9).bounded N) (fun _ => ⟨rfl, rfl⟩)
          (.cons ((RdF.slice Go.Proofs.Tryz.underlying26 (by kernel_rfl : Program.cellsOf Go.Proofs.Tryz.prog 28 = 6) (by decide) (rdPredN N)).mono (Nat.le_succ N)) (fun _ => ⟨rfl, rfl⟩) .nil))))))).map
      (fun (y : Int × Int × Int × Int × ByteArray × List Pd × Unit) => Pd.mk y.1 y.2.1 y.2.2.1 y.2.2.2.1 y.2.2.2.2.1 y.2.2.2.2.2.1) (fun _ => (aPd_mk _ _ _ _ _ _).symm) (fun _ _ => trivial)
theorem rdPred : Rd enc Go.Proofs.Tryz.prog W 28 6 aPd (fun _ => True) := RdF.all rdPredN
end
end Go.AL
end
section
/- The layer AL: a listed table of integers, as what a package-level variable holds. No condition. -/
namespace Go.AL
open Go Go.RowKit
theorem Rel.tab {P : Program} {W : World} {name : String} {zs : List Int} {g : Nat} (h : Lib.TabIs P W name .i64 zs) (hg : P.globalNamed name = some g) (hz : 0 < zs.length) :
    Rel W (fun b => b < W.heap.size) (.rp 1 (zs.map fun z => .v (.int .i64 z)) 0 0) (.pointer (some ⟨g, 0, none⟩)) := by
  have hA : g < W.heap.size := by
    have hu := h.cell hg 0 hz
    unfold World.cell? at hu
    cases hb : W.heap[g]? with
    | none => simp [hb] at hu
    | some o => exact (Array.getElem?_eq_some_iff.1 hb).1
  have := Rel.rp (w := W) (A := fun b => b < W.heap.size) 1 (zs.map fun z => .v (.int .i64 z)) 0 0 g 0 (fun i => .int .i64 (zs.getD i 0)) hA
    (fun x hx => by obtain ⟨z, _, rfl⟩ := List.mem_map.1 hx; exact ⟨rfl, rfl⟩)
    (fun i hi => by
      rw [List.length_map] at hi
      have := h.cell hg i (by omega)
      simpa using this)
    (fun i x j y hx hy => by
      rw [List.getElem?_map, Option.map_eq_some_iff] at hx
      obtain ⟨z, hz, rfl⟩ := hx
      cases j with
      | succ j => cases hy
      | zero =>
        cases hy
        have e : zs.getD i 0 = z := by rw [List.getD_eq_getElem?_getD, hz]; rfl
        simp only [Nat.mul_one, Nat.add_zero, e]
        exact .v _)
  exact this
end Go.AL
end
