/- Texts of this claim's proof: WVt, WVb, WJn, WPw, WPw2, WTl, WEf, WEl, WBd, WCl, WRe, WLo. No condition. -/
import Derived.Test.YtceeooppejjliaaGreatDoorM9
import Derived.Test.YtceeooppejjliaaGreatDoorM6
import Derived.Test.YtceeooppejjliaaGreatDoorM5
import Derived.Test.YtceeooppejjliaaGreatDoorM8
import Derived.Test.YtceeooppejjliaaGreatDoorM7
section
/- The truth of predicates: the program. No condition. -/
namespace Go.AL
open Go Go.RowKit
set_option maxRecDepth 4000
theorem fit_child {ps : List Pr} {k n p q : Int} {s : ByteArray} {l : List Pd} (h : fitB ps (.mk k n p q s l) = true) (hk : 9 ≤ k) : ∀ x ∈ l, fitB ps x = true := by
  rw [fitB_mk, if_neg (by omega), List.all_eq_true] at h; exact h
theorem fit_int {ps : List Pr} {x : Pd} (h : fitB ps x = true) (hk : x.kind ≤ 8) : (intF ps x).2.2 = true := by
  obtain ⟨k, n, p, q, s, l⟩ := x
  simp only [Pd.kind] at hk
  rw [fitB_mk, if_pos hk] at h; exact h
theorem view_truth (ps : List Pr) (c : List Int) (V : List (List Int)) (o : Obs) (hcl : c.length ≤ 1000000) (t : Pd) : szF t ≤ 1000000 → okT ps t = true → 9 ≤ t.kind → fitB ps t = true → allB ntmB t = true → AllP (obsB ps o) t → AllP (leafOk ps c V o) t →
    PC Go.Proofs.Tryz.prog 151 [aView ps c V, aPd t] (ab (truF o t)) := by
  induction t using Pd.ind with
  | _ k n p q s l ih =>
  intro hz ht hk hi htm hob hlf
  obtain ⟨o1, o2, o3, o4⟩ := okT_sub ht
  obtain ⟨hpl, _⟩ := loc_len o1
  simp only [Pd.kind] at hk
  obtain ⟨ht1, ht2⟩ := allB_sub htm
  have hnt : ¬ (18 ≤ k ∧ k ≤ 21) := by unfold ntmB tempB at ht1; simp at ht1; omega
  have hsz : szF (.mk k n p q s l) = szL l + 1 := by rw [szF]
  have hsp := truF_mk o k n p q s l
  have hfc := fit_child hi hk
  obtain ⟨_, hls⟩ := AllP_sub hlf
  obtain ⟨_, hos⟩ := AllP_sub hob
  generalize truF o (.mk k n p q s l) = R at *
  unfold truN at hsp
  by_cases h12 : k ≤ 12
  · have hch := child_le ht h12
    obtain ⟨a, b, rfl⟩ := len2 (l := l) (by rcases parts_cases k with ⟨e, hc⟩ | ⟨e, hc⟩ | ⟨e, hc⟩ | e <;> omega)
    obtain ⟨c1, c2⟩ := hch a (by simp)
    obtain ⟨c3, c4⟩ := hch b (by simp)
    have hza := szL_mem (l := [a, b]) (x := a) (by simp)
    have hzb := szL_mem (l := [a, b]) (x := b) (by simp)
    have hca := view_number ps c V o hcl a (by omega) c1 c2 (fit_int (hfc a (by simp)) c2) (hos a (by simp)) (hls a (by simp))
    have hcc := view_number ps c V o hcl b (by omega) c3 c4 (fit_int (hfc b (by simp)) c4) (hos b (by simp)) (hls b (by simp))
    simp only [List.map_cons, List.map_nil, List.getD_cons_zero, List.getD_cons_succ] at hsp
    generalize valF o a = A at *
    generalize valF o b = B at *
    clear ih hlf hls hob hos htm ht2 hch hfc
    unfold aView at *
    obtain ⟨ka, na, pa, qa, sa, la⟩ := a
    obtain ⟨kb, nb, pb, qb, sb, lb⟩ := b
    simp only [aPd_mk, List.map_cons, List.map_nil] at *
    refine PC.enter 112 [.tmp 4] [2, 3] Go.Proofs.Tryz.func151 rfl rfl rfl rfl rfl (by simp) (AWp.of ?_); simp only [go_sem]
    by_cases h9 : k = 9
    · rw [if_pos h9] at hsp
      repeat (first | ((with_reducible refine AWp.ofC ?_ ?_); (focus exact rfl); simp only [go_sem, (eq_true h9)]) | ((with_reducible refine an ?_ ?_); focus exact Au))
      refine AWp.mix mixed [0, 1, 2, 3, 4, 5, 6, 7, 8, 9, 10, 11, 12, 13] .done (by kernel_rfl) ?_; simp only [go_sem]
      repeat ((with_reducible refine an ?_ ?_); focus exact As)
      refine GCall.use (ai A) (fun _ => ⟨At, (hca).val.use ⟨rfl, rfl⟩⟩) ?_; simp only [go_sem]
      repeat ((with_reducible refine an ?_ ?_); focus exact As)
      refine GCall.use (ai B) (fun _ => ⟨At, (hcc).val.use ⟨rfl, rfl⟩⟩) ?_; simp only [go_sem]
      repeat ((with_reducible refine an ?_ ?_); focus exact As)
      repeat (first | ((with_reducible refine AWp.ofC ?_ ?_); (focus exact rfl); simp only [go_sem]) | ((with_reducible refine an ?_ ?_); focus exact Au))
      refine ret_eq ?_; simp only [go_sem]
      rw [hsp]
    by_cases h10 : k = 10
    · rw [if_neg h9, if_pos h10] at hsp
      repeat (first | ((with_reducible refine AWp.ofC ?_ ?_); (focus exact rfl); simp only [go_sem, (eq_true h10), h9]) | ((with_reducible refine an ?_ ?_); focus exact Au))
      refine AWp.mix mixed [0, 1, 2, 3, 4, 5, 6, 7, 8, 9, 10, 11, 12, 13] .done (by kernel_rfl) ?_; simp only [go_sem]
      repeat ((with_reducible refine an ?_ ?_); focus exact As)
      refine GCall.use (ai A) (fun _ => ⟨At, (hca).val.use ⟨rfl, rfl⟩⟩) ?_; simp only [go_sem]
      repeat ((with_reducible refine an ?_ ?_); focus exact As)
      refine GCall.use (ai B) (fun _ => ⟨At, (hcc).val.use ⟨rfl, rfl⟩⟩) ?_; simp only [go_sem]
      repeat ((with_reducible refine an ?_ ?_); focus exact As)
      repeat (first | ((with_reducible refine AWp.ofC ?_ ?_); (focus exact rfl); simp only [go_sem]) | ((with_reducible refine an ?_ ?_); focus exact Au))
      refine ret_eq ?_; simp only [go_sem]
      rw [hsp]
    by_cases h11 : k = 11
    · rw [if_neg h9, if_neg h10, if_pos h11] at hsp
      repeat (first | ((with_reducible refine AWp.ofC ?_ ?_); (focus exact rfl); simp only [go_sem, (eq_true h11), h9, h10]) | ((with_reducible refine an ?_ ?_); focus exact Au))
      refine AWp.mix mixed [0, 1, 2, 3, 4, 5, 6, 7, 8, 9, 10, 11, 12, 13] .done (by kernel_rfl) ?_; simp only [go_sem]
      repeat ((with_reducible refine an ?_ ?_); focus exact As)
      refine GCall.use (ai A) (fun _ => ⟨At, (hca).val.use ⟨rfl, rfl⟩⟩) ?_; simp only [go_sem]
      repeat ((with_reducible refine an ?_ ?_); focus exact As)
      refine GCall.use (ai B) (fun _ => ⟨At, (hcc).val.use ⟨rfl, rfl⟩⟩) ?_; simp only [go_sem]
      repeat ((with_reducible refine an ?_ ?_); focus exact As)
      repeat (first | ((with_reducible refine AWp.ofC ?_ ?_); (focus exact rfl); simp only [go_sem]) | ((with_reducible refine an ?_ ?_); focus exact Au))
      refine ret_eq ?_; simp only [go_sem]
      rw [hsp]
    have h12 : k = 12 := by omega
    rw [if_neg h9, if_neg h10, if_neg h11, if_pos h12] at hsp
    repeat (first | ((with_reducible refine AWp.ofC ?_ ?_); (focus exact rfl); simp only [go_sem, (eq_true h12), h9, h10, h11]) | ((with_reducible refine an ?_ ?_); focus exact Au))
    refine AWp.mix mixed [0, 1, 2, 3, 4, 5, 6, 7, 8, 9, 10, 11, 12, 13] .done (by kernel_rfl) ?_; simp only [go_sem]
    repeat ((with_reducible refine an ?_ ?_); focus exact As)
    refine GCall.use (ai A) (fun _ => ⟨At, (hca).val.use ⟨rfl, rfl⟩⟩) ?_; simp only [go_sem]
    repeat ((with_reducible refine an ?_ ?_); focus exact As)
    refine GCall.use (ai B) (fun _ => ⟨At, (hcc).val.use ⟨rfl, rfl⟩⟩) ?_; simp only [go_sem]
    repeat ((with_reducible refine an ?_ ?_); focus exact As)
    repeat (first | ((with_reducible refine AWp.ofC ?_ ?_); (focus exact rfl); simp only [go_sem]) | ((with_reducible refine an ?_ ?_); focus exact Au))
    refine ret_eq ?_; simp only [go_sem]
    rw [hsp]
  have h9 : ¬ k = 9 := by omega
  have h10 : ¬ k = 10 := by omega
  have h11 : ¬ k = 11 := by omega
  have h12 : ¬ k = 12 := by omega
  rw [if_neg h9, if_neg h10, if_neg h11, if_neg h12] at hsp
  have hch := child_bool ht (by omega)
  rcases parts_cases k with ⟨e, hc⟩ | ⟨e, hc⟩ | ⟨e, hc⟩ | e
  · obtain rfl := len0 (l := l) (by omega)
    unfold aView
    simp only [aPd_mk, List.map_nil] at *
    refine PC.enter 112 [.tmp 4] [2, 3] Go.Proofs.Tryz.func151 rfl rfl rfl rfl rfl (by simp) (AWp.of ?_); simp only [go_sem]
    by_cases h13 : k = 13
    · rw [if_pos h13] at hsp
      repeat (first | ((with_reducible refine AWp.ofC ?_ ?_); (focus exact rfl); simp only [go_sem, (eq_true h13), h9, h10, h11, h12]) | ((with_reducible refine an ?_ ?_); focus exact Au))
      refine ret_eq ?_; simp only [go_sem]
      rw [hsp]
    · have h14 : k = 14 := by omega
      rw [if_neg h13, if_pos h14] at hsp
      repeat (first | ((with_reducible refine AWp.ofC ?_ ?_); (focus exact rfl); simp only [go_sem, (eq_true h14), h9, h10, h11, h12, h13]) | ((with_reducible refine an ?_ ?_); focus exact Au))
      refine ret_eq ?_; simp only [go_sem]
      rw [hsp]
  · obtain ⟨a, rfl⟩ := len1 (l := l) (by omega)
    have h13 : ¬ k = 13 := by omega
    have h14 : ¬ k = 14 := by omega
    have h15 : k = 15 := by omega
    obtain ⟨c1, c2⟩ := hch a (by simp)
    have hza := szL_mem (l := [a]) (x := a) (by simp)
    have hca := ih a (by simp) (by omega) c1 c2 (hfc a (by simp)) (ht2 a (by simp)) (hos a (by simp)) (hls a (by simp))
    simp only [List.map_cons, List.map_nil, List.getD_cons_zero, if_neg h13, if_neg h14, if_pos h15] at hsp
    generalize truF o a = A at *
    clear ih hlf hls hob hos htm ht2 hch hfc
    unfold aView at *
    obtain ⟨ka, na, pa, qa, sa, la⟩ := a
    simp only [aPd_mk, List.map_cons, List.map_nil] at *
    refine PC.enter 112 [.tmp 4] [2, 3] Go.Proofs.Tryz.func151 rfl rfl rfl rfl rfl (by simp) (AWp.of ?_); simp only [go_sem]
    repeat (first | ((with_reducible refine AWp.ofC ?_ ?_); (focus exact rfl); simp only [go_sem, (eq_true h15), h9, h10, h11, h12, h13, h14]) | ((with_reducible refine an ?_ ?_); focus exact Au))
    refine AWp.mix mixed [0, 1, 2, 3, 4, 5, 6, 7] .done (by kernel_rfl) ?_; simp only [go_sem]
    repeat ((with_reducible refine an ?_ ?_); focus exact As)
    refine GCall.use (ab A) (fun _ => ⟨At, (hca).val.use ⟨rfl, rfl⟩⟩) ?_; simp only [go_sem]
    repeat ((with_reducible refine an ?_ ?_); focus exact As)
    repeat (first | ((with_reducible refine AWp.ofC ?_ ?_); (focus exact rfl); simp only [go_sem]) | ((with_reducible refine an ?_ ?_); focus exact Au))
    refine ret_eq ?_; simp only [go_sem]
    rw [hsp]
  · obtain ⟨a, b, rfl⟩ := len2 (l := l) (by omega)
    have h13 : ¬ k = 13 := by omega
    have h14 : ¬ k = 14 := by omega
    have h15 : ¬ k = 15 := by omega
    obtain ⟨c1, c2⟩ := hch a (by simp)
    obtain ⟨c3, c4⟩ := hch b (by simp)
    have hza := szL_mem (l := [a, b]) (x := a) (by simp)
    have hzb := szL_mem (l := [a, b]) (x := b) (by simp)
    have hca := ih a (by simp) (by omega) c1 c2 (hfc a (by simp)) (ht2 a (by simp)) (hos a (by simp)) (hls a (by simp))
    have hcc := ih b (by simp) (by omega) c3 c4 (hfc b (by simp)) (ht2 b (by simp)) (hos b (by simp)) (hls b (by simp))
    simp only [List.map_cons, List.map_nil, List.getD_cons_zero, List.getD_cons_succ, if_neg h13, if_neg h14, if_neg h15] at hsp
    generalize truF o a = A at *
    generalize truF o b = B at *
    clear ih hlf hls hob hos htm ht2 hch hfc
    unfold aView at *
    obtain ⟨ka, na, pa, qa, sa, la⟩ := a
    obtain ⟨kb, nb, pb, qb, sb, lb⟩ := b
    simp only [aPd_mk, List.map_cons, List.map_nil] at *
    refine PC.enter 112 [.tmp 4] [2, 3] Go.Proofs.Tryz.func151 rfl rfl rfl rfl rfl (by simp) (AWp.of ?_); simp only [go_sem]
    by_cases h16 : k = 16
    · rw [if_pos h16] at hsp
      repeat (first | ((with_reducible refine AWp.ofC ?_ ?_); (focus exact rfl); simp only [go_sem, (eq_true h16), h9, h10, h11, h12, h13, h14, h15]) | ((with_reducible refine an ?_ ?_); focus exact Au))
      refine AWp.mix mixed [0, 1, 2, 3, 4, 5, 6, 7, 8, 9, 10, 11, 12, 13, 14] .done (by kernel_rfl) ?_; simp only [go_sem]
      repeat ((with_reducible refine an ?_ ?_); focus exact As)
      refine GCall.use (ab A) (fun _ => ⟨At, (hca).val.use ⟨rfl, rfl⟩⟩) ?_; simp only [go_sem]
      repeat ((with_reducible refine an ?_ ?_); focus exact As)
      refine GCall.use (ab B) (fun _ => ⟨At, (hcc).val.use ⟨rfl, rfl⟩⟩) ?_; simp only [go_sem]
      repeat ((with_reducible refine an ?_ ?_); focus exact As)
      repeat (first | ((with_reducible refine AWp.ofC ?_ ?_); (focus exact rfl); simp only [go_sem]) | ((with_reducible refine an ?_ ?_); focus exact Au))
      refine ret_eq ?_; simp only [go_sem]
      rw [hsp]
    · rw [if_neg h16] at hsp
      repeat (first | ((with_reducible refine AWp.ofC ?_ ?_); (focus exact rfl); simp only [go_sem, h9, h10, h11, h12, h13, h14, h15, h16]) | ((with_reducible refine an ?_ ?_); focus exact Au))
      refine AWp.seq ?_
      refine AWp.mix mixed [0, 1, 2, 3, 4, 5, 6, 7, 8, 9, 10, 11, 12, 13, 14] .done (by kernel_rfl) ?_; simp only [go_sem]
      repeat ((with_reducible refine an ?_ ?_); focus exact As)
      refine GCall.use (ab A) (fun _ => ⟨At, (hca).val.use ⟨rfl, rfl⟩⟩) ?_; simp only [go_sem]
      repeat ((with_reducible refine an ?_ ?_); focus exact As)
      refine GCall.use (ab B) (fun _ => ⟨At, (hcc).val.use ⟨rfl, rfl⟩⟩) ?_; simp only [go_sem]
      repeat ((with_reducible refine an ?_ ?_); focus exact As)
      repeat (first | ((with_reducible refine AWp.ofC ?_ ?_); (focus exact rfl); simp only [go_sem]) | ((with_reducible refine an ?_ ?_); focus exact Au))
      refine ret_eq ?_; simp only [go_sem]
      rw [hsp]
  · omega
end Go.AL
end
section
/- The truth of a predicate at a cut: evaluate.Bool. No condition. -/
namespace Go.AL
open Go Go.RowKit
set_option maxRecDepth 4000
theorem evaluate_typed (t : Pd) (hz : szF t ≤ 1000000) (h1 : formedB t = true) (h2 : typedB t = true) (w : Int) : PC Go.Proofs.Tryz.prog 148 [aPd t, ai w] (ai (if resF t.kind = w then 0 else 14)) := by
  have ht := predtype_TypeX t hz
  rw [h1, h2] at ht
  rw [if_neg (by decide), if_neg (by decide), if_neg (by decide), if_neg (by decide)] at ht
  generalize resF t.kind = r at *
  obtain ⟨k, n, p, q, s, l⟩ := t
  simp only [aPd_mk] at *
  refine PC.enter 19 [.tmp 4] [2] Go.Proofs.Tryz.func148 rfl rfl rfl rfl rfl (by simp) (AWp.of ?_); simp only [go_sem]
  repeat (first | ((with_reducible refine AWp.ofC ?_ ?_); (focus exact rfl); simp only [go_sem]) | ((with_reducible refine an ?_ ?_); focus exact Au))
  repeat ((with_reducible refine an ?_ ?_); focus exact As)
  refine (ht).val.use ?_; simp only [go_sem]
  repeat (first | ((with_reducible refine AWp.ofC ?_ ?_); (focus exact rfl); simp only [go_sem]) | ((with_reducible refine an ?_ ?_); focus exact Au))
  refine ⟨fun h3 => ?_, fun h3 => ?_⟩
  · repeat (first | ((with_reducible refine AWp.ofC ?_ ?_); (focus exact rfl); simp only [go_sem]) | ((with_reducible refine an ?_ ?_); focus exact Au))
    refine ret_eq ?_; simp only [go_sem]
    rw [if_neg h3]
  · repeat (first | ((with_reducible refine AWp.ofC ?_ ?_); (focus exact rfl); simp only [go_sem]) | ((with_reducible refine an ?_ ?_); focus exact Au))
    refine ret_eq ?_; simp only [go_sem]
    rw [if_pos h3]
/-! ### What is seen at a cut -/
noncomputable def atE (ps : List Pr) (c : List Int) (t : Pd) (w : Int) : Int :=
  if c.length ≠ ps.length then 1 else if checkF ps t ≠ 0 then checkF ps t else if givenF ps [c] [] ≠ 0 then givenF ps [c] [] else if resF t.kind ≠ w then 14 else if allB ntmB t = false then 15 else 0
open Classical in
noncomputable def atV (ps : List Pr) (c : List Int) (t : Pd) : AV := if c.length ≠ ps.length ∨ checkF ps t ≠ 0 ∨ givenF ps [c] [] ≠ 0 then aView [] [] [] else aView ps c (valuesAt ps c)
/-! ### Trees without channels -/
def nchB : Pd → Bool | .mk k _ _ _ _ _ => decide (k ≠ 4)
def andB (f g : Pd → Bool) (x : Pd) : Bool := f x && g x
theorem allB_and {f g : Pd → Bool} (t : Pd) : allB f t = true → allB g t = true → allB (andB f g) t = true := by
  induction t using Pd.ind with
  | _ k n p q s l ih =>
    intro hf hg
    obtain ⟨f1, f2⟩ := allB_sub hf
    obtain ⟨g1, g2⟩ := allB_sub hg
    rw [allB_mk, Bool.and_eq_true, List.all_eq_true]
    exact ⟨by unfold andB; rw [f1, g1]; rfl, fun x hx => ih x hx (f2 x hx) (g2 x hx)⟩
noncomputable def aBool (ps : List Pr) (c : List Int) (t : Pd) : AV := .tup [ab (decide (atE ps c t 2 = 0) && truF (cutO ps c fun _ _ => 0) t), ai (atE ps c t 2)]
end Go.AL
end
section
/- The join and the meet of two cuts. No condition. -/
namespace Go.AL
open Go Go.RowKit
set_option maxRecDepth 4000
/-- A row that is filled from the front. -/
def fillZ (l : List Int) (n i : Nat) : List Int := l.take i ++ List.replicate (n - i) 0
def two (_l a b : List Int) (g : Int → Int → Int) : List Int := List.zipWith g a b
noncomputable def aComb (ps : List Pr) (a b : List Int) (g : Int → Int → Int) : AV := if givenF ps [a, b] [] ≠ 0 then .tup [.sl 1 [], ai (givenF ps [a, b] [])] else .tup [aInts (List.zipWith g a b), ai 0]
end Go.AL
end
section
/- Rewritten trees. No condition. -/
namespace Go.AL
open Go Go.RowKit
set_option maxRecDepth 4000
/-! ### Counts of processes that there are -/
def covB (m : Int) : Pd → Bool
  | .mk k _ p _ _ _ => !(decide (k = 3) && (decide (p < 0) || decide (m ≤ p)))
/-! ### Rewritten trees -/
mutual
def rwF (c : List Int) : Pd → Pd
  | .mk k n p q s l => if k = 3 then .mk 6 0 0 0 ByteArray.empty [.mk k n p q s l, .mk 1 (c.getD p.toNat 0) 0 0 ByteArray.empty []] else .mk k n p q s (rwL c l)
def rwL (c : List Int) : List Pd → List Pd
  | [] => []
  | x :: r => rwF c x :: rwL c r
end
def aPd0 : AV := .agg [ai 0, ai 0, ai 0, ai 0, astr ByteArray.empty, anil]
end Go.AL
end
section
/- Trees rewritten and counts shifted: what is returned. No condition. -/
namespace Go.AL
open Go Go.RowKit
set_option maxRecDepth 4000
def pd0 : Pd := .mk 0 0 0 0 ByteArray.empty []
def rwRes (t : Pd) (c : List Int) : Pd × Int :=
  if (!formedB t || !c.all inB) = true then (pd0, 1) else if allB (covB c.length) t = false then (pd0, 2) else if formedB (rwF c t) = false then (pd0, 5) else (rwF c t, 0)
/-! ### Shifted counts -/
def shS (c d : List Int) : List Int := List.zipWith (· + ·) c d
def shiftR (c d : List Int) : List Int × Int :=
  if (!decide (c.length = d.length) || decide (8 < c.length)) = true then ([], 1) else if (!c.all inB || !d.all inB) = true then ([], 2) else if (shS c d).all inB = false then ([], 9) else (shS c d, 0)
def bigB (c d : List Int) (i : Nat) : Bool := ((shS c d).take i).any fun x => decide (64 < x)
end Go.AL
end
section
/- What a cut of the trace without a cut is, and what a rewritten tree says there. Plain laws. No condition. -/
namespace Go.AL
open Go Go.RowKit
set_option maxRecDepth 4000
theorem inRange_iff {ps : List Pr} {c : List Int} (hc : c.length = ps.length) : inRangeF ps c = true ↔ ∀ (p : Nat) (hp : p < ps.length), 0 ≤ cAt c p ∧ cAt c p ≤ ps[p].evs.length := by
  constructor
  · intro h p hp
    obtain ⟨h1, h2⟩ := inRangeF_get h hc hp
    rw [cAt_nat (show p < c.length by omega)]
    exact ⟨h1, h2⟩
  · intro h
    unfold inRangeF
    rw [List.all_eq_true]
    intro p hp
    have hpc := List.mem_range.1 hp
    have hpp : p < ps.length := by omega
    have := h p hpp
    rw [cAt_nat hpc] at this
    unfold cntOk
    simp only [List.getElem?_eq_getElem hpc, List.getElem?_eq_getElem hpp, Bool.and_eq_true, decide_eq_true_eq]
    exact this
def joinL (c d : List Int) : List Int := List.zipWith (fun x y => if x < y then y else x) c d
def subL (c d : List Int) : List Int := List.zipWith (fun x y => x - y) c d
section
variable {ps : List Pr} {c j : List Int}
end
end Go.AL
end
section
/- The least closed counts above counts: the sends that are missing are added one by one. Plain laws. No condition. -/
namespace Go.AL
open Go Go.RowKit
set_option maxRecDepth 4000
def closeN (ps : List Pr) : Nat → List Int → List Int
  | 0, c => c
  | n + 1, c => match missF ps c with
    | none => c
    | some x => closeN ps n (c.set x.1.1.toNat x.1.2)
def closeF (ps : List Pr) (c : List Int) : List Int := closeN ps (off ps ps.length) c
theorem sumN_set : ∀ (l : List Nat) (i x : Nat) (h : i < l.length), (l.set i x).sum + l[i] = l.sum + x
  | a :: r, 0, x, _ => by simp only [List.set_cons_zero, List.sum_cons, List.getElem_cons_zero]; omega
  | a :: r, i + 1, x, h => by
    have := sumN_set r i x (by simpa using h)
    simp only [List.set_cons_succ, List.sum_cons, List.getElem_cons_succ]; omega
def totC (c : List Int) : Nat := (c.map Int.toNat).sum
theorem totC_set {c : List Int} {q : Nat} {x : Int} (hq : q < c.length) : totC (c.set q x) + (c[q]).toNat = totC c + x.toNat := by
  unfold totC
  rw [List.map_set]
  have := sumN_set (c.map Int.toNat) q x.toNat (by simpa using hq)
  simpa using this
theorem totC_le0 : ∀ (l : List Pr) (c : List Int), c.length = l.length → (∀ p (hp : p < l.length), c.getD p 0 ≤ l[p].evs.length) → totC c ≤ (l.map fun x => x.evs.length).sum
  | [], [], _, _ => Nat.le_refl _
  | x :: l, a :: c, hl, h => by
    have h0 := h 0 (by simp)
    have ht := totC_le0 l c (by simpa using hl) fun p hp => by
      have := h (p + 1) (by simpa using hp)
      simpa using this
    simp only [List.getElem_cons_zero, List.getD_cons_zero] at h0
    unfold totC at *
    simp only [List.map_cons, List.sum_cons]
    omega
theorem totC_le {ps : List Pr} {c : List Int} (hc : c.length = ps.length) (hr : inRangeF ps c = true) : totC c ≤ off ps ps.length := by
  unfold off
  rw [List.take_length]
  refine totC_le0 ps c hc fun p hp => ?_
  have := ((inRange_iff hc).1 hr p hp).2
  unfold cAt at this
  simpa using this
/-- What is missing is a send that the cut has not. -/
theorem miss_inv {ps : List Pr} (hv : validF ps = true) {c : List Int} (_hc : c.length = ps.length) {x : Eid × Eid} (h : missF ps c = some x) :
    ∃ (p : Nat) (_ : p < ps.length) (i : Nat) (_ : i < ps[p].evs.length) (q : Nat) (_ : q < ps.length) (j : Nat) (_ : j < ps[q].evs.length), ps[p].evs[i].kind = 3 ∧ (i : Int) + 1 ≤ cAt c p ∧ sndr ps ps[p].evs[i].msg = ((q : Int), (j : Int) + 1) ∧ x = (((q : Int), (j : Int) + 1), ((p : Int), (i : Int) + 1)) ∧ cAt c q < (j : Int) + 1 := by
  unfold missF at h
  rw [Option.map_eq_some_iff] at h
  obtain ⟨y, hy, rfl⟩ := h
  have hb := List.find?_some hy
  obtain ⟨k, hk⟩ := List.getElem?_of_mem (List.mem_of_find?_eq_some hy)
  obtain ⟨p, hp, i, hi, _, rfl⟩ := evIds_inv hk
  unfold badEv at hb
  simp only [Bool.and_eq_true, decide_eq_true_eq] at hb
  obtain ⟨⟨h1, h2⟩, h3⟩ := hb
  obtain ⟨hq, j, hj, e, _, _⟩ := recv_peer (valid_parts hv).2.2 hp hi h1
  have e' : findIn (evIds ps) 2 ps[p].evs[i].msg = ((ps[p].evs[i].peer.toNat : Int), (j : Int) + 1) := e
  rw [e'] at h3
  exact ⟨p, hp, i, hi, _, hq, j, hj, h1, h2, e, by rw [e'], h3⟩
theorem miss_next {ps : List Pr} (hv : validF ps = true) {c : List Int} (hc : c.length = ps.length) (hr : inRangeF ps c = true) {x : Eid × Eid} (h : missF ps c = some x) :
    (c.set x.1.1.toNat x.1.2).length = ps.length ∧ inRangeF ps (c.set x.1.1.toNat x.1.2) = true ∧ totC c < totC (c.set x.1.1.toNat x.1.2) := by
  obtain ⟨p, hp, i, hi, q, hq, j, hj, _, _, _, rfl, h1⟩ := miss_inv hv hc h
  have hl : (c.set q ((j : Int) + 1)).length = ps.length := by rw [List.length_set]; exact hc
  refine ⟨hl, ?_, ?_⟩
  · rw [Int.toNat_natCast, inRange_iff hl]
    intro r hr'
    rw [cAt_nat (show r < (c.set q ((j : Int) + 1)).length by omega), List.getElem_set]
    split
    · rename_i e; subst e; omega
    · have := (inRange_iff hc).1 hr r hr'
      rw [cAt_nat (show r < c.length by omega)] at this
      exact this
  · have := totC_set (c := c) (q := q) (x := (j : Int) + 1) (by omega)
    rw [cAt_nat (show q < c.length by omega)] at h1
    have h0 := ((inRange_iff hc).1 hr q hq).1
    rw [cAt_nat (show q < c.length by omega)] at h0
    simp only [Int.toNat_natCast]
    have h3 : ((j : Int) + 1).toNat = j + 1 := by omega
    rw [h3] at this
    omega
theorem closeN_more {ps : List Pr} (hv : validF ps = true) : ∀ (n : Nat) (c : List Int), c.length = ps.length → inRangeF ps c = true → off ps ps.length ≤ totC c + n → closeN ps (n + 1) c = closeN ps n c
  | 0, c, hc, hr, hn => by
    unfold closeN
    cases h : missF ps c with
    | none => rfl
    | some x =>
      obtain ⟨a1, a2, a3⟩ := miss_next hv hc hr h
      have := totC_le a1 a2
      omega
  | n + 1, c, hc, hr, hn => by
    rw [closeN]
    conv => rhs; rw [closeN]
    cases h : missF ps c with
    | none => rfl
    | some x =>
      obtain ⟨a1, a2, a3⟩ := miss_next hv hc hr h
      exact closeN_more hv n _ a1 a2 (by omega)
theorem closeN_of {ps : List Pr} (hv : validF ps = true) {c : List Int} (hc : c.length = ps.length) (hr : inRangeF ps c = true) {n : Nat} (h : off ps ps.length ≤ totC c + n) : ∀ k, closeN ps (n + k) c = closeN ps n c
  | 0 => rfl
  | k + 1 => by rw [← Nat.add_assoc, closeN_more hv (n + k) c hc hr (by omega), closeN_of hv hc hr h k]
theorem closeF_step {ps : List Pr} (hv : validF ps = true) {c : List Int} (hc : c.length = ps.length) (hr : inRangeF ps c = true) {x : Eid × Eid} (h : missF ps c = some x) : closeF ps c = closeF ps (c.set x.1.1.toNat x.1.2) := by
  obtain ⟨a1, a2, a3⟩ := miss_next hv hc hr h
  have hle := totC_le a1 a2
  unfold closeF
  obtain ⟨m, hm⟩ : ∃ m, off ps ps.length = m + 1 := ⟨off ps ps.length - 1, by omega⟩
  rw [hm]
  conv => lhs; rw [closeN]
  rw [h]
  exact (closeN_of hv a1 a2 (n := m) (by omega) 1).symm
theorem closeF_none {ps : List Pr} {c : List Int} (h : missF ps c = none) : closeF ps c = c := by
  unfold closeF
  cases off ps ps.length with
  | zero => rfl
  | succ n => rw [closeN, h]
/-- Induction along what is missing. -/
theorem miss_ind {ps : List Pr} (hv : validF ps = true) {M : List Int → Prop} (h0 : ∀ c, c.length = ps.length → inRangeF ps c = true → missF ps c = none → M c)
    (h1 : ∀ c, c.length = ps.length → inRangeF ps c = true → ∀ x, missF ps c = some x → M (c.set x.1.1.toNat x.1.2) → M c) : ∀ c, c.length = ps.length → inRangeF ps c = true → M c := by
  suffices H : ∀ n c, c.length = ps.length → inRangeF ps c = true → off ps ps.length - totC c = n → M c from fun c hc hr => H _ c hc hr rfl
  intro n
  induction n using Nat.strongRecOn with
  | _ n ih =>
    intro c hc hr hn
    cases h : missF ps c with
    | none => exact h0 c hc hr h
    | some x =>
      obtain ⟨a1, a2, a3⟩ := miss_next hv hc hr h
      have := totC_le a1 a2
      exact h1 c hc hr x h (ih _ (by omega) _ a1 a2 rfl)
theorem closeF_ok {ps : List Pr} (hv : validF ps = true) {c : List Int} (hc : c.length = ps.length) (hr : inRangeF ps c = true) : (closeF ps c).length = ps.length ∧ inRangeF ps (closeF ps c) = true ∧ missF ps (closeF ps c) = none := by
  refine miss_ind hv (M := fun c => (closeF ps c).length = ps.length ∧ inRangeF ps (closeF ps c) = true ∧ missF ps (closeF ps c) = none) (fun c hc hr h => ?_) (fun c hc hr x h hm => ?_) c hc hr
  · rw [closeF_none h]; exact ⟨hc, hr, h⟩
  · rw [closeF_step hv hc hr h]; exact hm
end Go.AL
end
section
/- Elimination, plainly: states are skipped that no cut which satisfies the locals can have. No condition. -/
namespace Go.AL
open Go Go.RowKit
set_option maxRecDepth 4000
/-- What elimination depends on: processes, last states, where the locals are true, and what a state needs. -/
structure Elim where
  n : Nat
  top : Nat → Nat
  ok : Nat → Nat → Bool
  need : Nat → Nat → Nat → Int
def exB (E : Elim) (now : Nat → Nat) (p k : Nat) : Bool := !E.ok p k || (List.range E.n).any fun q => decide (q ≠ p) && decide ((k : Int) < E.need q (now q) p)
theorem exB_false {E : Elim} {now : Nat → Nat} {p k : Nat} : exB E now p k = false ↔ E.ok p k = true ∧ ∀ q, q < E.n → q ≠ p → E.need q (now q) p ≤ k := by
  unfold exB
  rw [Bool.or_eq_false_iff, List.any_eq_false]
  constructor
  · rintro ⟨h1, h2⟩
    refine ⟨by simpa using h1, fun q hq hn => ?_⟩
    have := h2 q (List.mem_range.2 hq)
    simp only [Bool.and_eq_true, decide_eq_true_eq, not_and] at this
    have := this hn
    omega
  · rintro ⟨h1, h2⟩
    refine ⟨by rw [h1]; rfl, fun q hq => ?_⟩
    simp only [Bool.and_eq_true, decide_eq_true_eq, not_and]
    intro hn
    have := h2 q (List.mem_range.1 hq) hn
    omega
def nextF (ex : Nat → Bool) (top : Nat) : Nat → Nat → Nat
  | 0, k => k
  | m + 1, k => if k ≤ top ∧ ex k = true then nextF ex top m (k + 1) else k
def nextK (ex : Nat → Bool) (top k : Nat) : Nat := nextF ex top (top + 1 - k) k
section
variable {ex : Nat → Bool} {top k : Nat}
theorem nextK_hit (h : k ≤ top) (he : ex k = true) : nextK ex top k = nextK ex top (k + 1) := by
  unfold nextK
  obtain ⟨m, hm⟩ : ∃ m, top + 1 - k = m + 1 := ⟨top - k, by omega⟩
  rw [hm, nextF, if_pos ⟨h, he⟩, show top + 1 - (k + 1) = m by omega]
theorem nextK_stop (h : ¬ (k ≤ top ∧ ex k = true)) : nextK ex top k = k := by
  unfold nextK
  cases top + 1 - k with
  | zero => rfl
  | succ m => rw [nextF, if_neg h]
theorem nextK_spec : ∀ (m k : Nat), top + 1 - k = m → k ≤ top + 1 → k ≤ nextK ex top k ∧ nextK ex top k ≤ top + 1 ∧ (∀ j, k ≤ j → j < nextK ex top k → ex j = true) ∧ (nextK ex top k ≤ top → ex (nextK ex top k) = false)
  | 0, k, hm, hk => by
    rw [nextK_stop (by omega)]
    exact ⟨Nat.le_refl _, hk, fun j _ _ => by omega, fun h => by omega⟩
  | m + 1, k, hm, hk => by
    by_cases he : ex k = true
    · rw [nextK_hit (by omega) he]
      obtain ⟨a1, a2, a3, a4⟩ := nextK_spec m (k + 1) (by omega) (by omega)
      refine ⟨by omega, a2, fun j h1 h2 => ?_, a4⟩
      by_cases e : j = k
      · subst e; exact he
      · exact a3 j (by omega) h2
    · rw [nextK_stop (fun h => he h.2)]
      exact ⟨Nat.le_refl _, hk, fun j _ _ => by omega, fun _ => by simpa using he⟩
end
def stepP (E : Elim) (now : Nat → Nat) : Option Nat := (List.range E.n).find? fun p => exB E now p (now p)
def goF (E : Elim) (now : Nat → Nat) (p : Nat) : Nat := nextK (exB E now p) (E.top p) (now p)
def updN (f : Nat → Nat) (p x : Nat) : Nat → Nat := fun q => if q = p then x else f q
theorem updN_self (f : Nat → Nat) (p x : Nat) : updN f p x p = x := if_pos rfl
theorem updN_ne {f : Nat → Nat} {p x q : Nat} (h : q ≠ p) : updN f p x q = f q := if_neg h
theorem find_range {n : Nat} {f : Nat → Bool} {p : Nat} (h : (List.range n).find? f = some p) : p < n ∧ f p = true ∧ ∀ q, q < p → f q = false := by
  rw [List.find?_eq_some_iff_getElem] at h
  obtain ⟨h1, i, hi, e, h2⟩ := h
  rw [List.getElem_range] at e
  subst e
  refine ⟨by simpa using hi, h1, fun q hq => ?_⟩
  have := h2 q hq
  rw [List.getElem_range] at this
  simpa using this
theorem find_range_of {n : Nat} {f : Nat → Bool} {p : Nat} (hp : p < n) (h : f p = true) (h0 : ∀ q, q < p → f q = false) : (List.range n).find? f = some p := by
  rw [List.find?_eq_some_iff_getElem]
  exact ⟨h, p, by simpa using hp, List.getElem_range _, fun j hj => by rw [List.getElem_range, h0 j hj]; rfl⟩
theorem find_range_no {n : Nat} {f : Nat → Bool} (h0 : ∀ q, q < n → f q = false) : (List.range n).find? f = none := by
  rw [List.find?_eq_none]
  intro x hx
  rw [h0 x (List.mem_range.1 hx)]; decide
abbrev Stp := Nat × Nat × Nat
/-- The steps from where one is, where they end, and whether a process is through. -/
inductive RunR (E : Elim) : (Nat → Nat) → List Stp → (Nat → Nat) → Bool → Prop
  | stop {now : Nat → Nat} (h : stepP E now = none) : RunR E now [] now false
  | lost {now : Nat → Nat} {p : Nat} (h : stepP E now = some p) (hl : E.top p < goF E now p) : RunR E now [(p, now p, goF E now p - 1)] (updN now p (goF E now p)) true
  | go {now fin : Nat → Nat} {p : Nat} {st : List Stp} {l : Bool} (h : stepP E now = some p) (hl : goF E now p ≤ E.top p) (hr : RunR E (updN now p (goF E now p)) st fin l) : RunR E now ((p, now p, goF E now p - 1) :: st) fin l
def InE (E : Elim) (now : Nat → Nat) : Prop := ∀ q, q < E.n → now q ≤ E.top q
def roomE (E : Elim) (now : Nat → Nat) : Nat := totS E.n fun q => E.top q + 1 - now q
theorem totS_lt {c c' : Nat → Nat} {p : Nat} (h : ∀ q, q ≠ p → c' q = c q) (hp : c' p < c p) : ∀ n, totS n c' + (if p < n then 1 else 0) ≤ totS n c
  | 0 => by simp [totS]
  | n + 1 => by
    have := totS_lt h hp n
    rw [totS_succ, totS_succ]
    by_cases e : n = p
    · subst e
      rw [if_neg (by omega)] at this
      rw [if_pos (by omega)]; omega
    · rw [h n e]
      by_cases e2 : p < n
      · rw [if_pos e2] at this; rw [if_pos (by omega)]; omega
      · rw [if_neg e2] at this; rw [if_neg (by omega)]; omega
theorem step_inv {E : Elim} {now : Nat → Nat} (hI : InE E now) {p : Nat} (h : stepP E now = some p) :
    p < E.n ∧ exB E now p (now p) = true ∧ (∀ q, q < p → exB E now q (now q) = false) ∧ now p < goF E now p ∧ goF E now p ≤ E.top p + 1 ∧ (∀ j, now p ≤ j → j < goF E now p → exB E now p j = true) ∧ roomE E (updN now p (goF E now p)) < roomE E now := by
  obtain ⟨h1, h2, h3⟩ := find_range h
  have hle := hI p h1
  obtain ⟨a1, a2, a3, a4⟩ := nextK_spec (ex := exB E now p) (top := E.top p) _ (now p) rfl (by omega)
  have hlt : now p < goF E now p := by
    unfold goF
    rw [nextK_hit hle h2]
    obtain ⟨b1, _⟩ := nextK_spec (ex := exB E now p) (top := E.top p) _ (now p + 1) rfl (by omega)
    omega
  refine ⟨h1, h2, h3, hlt, a2, a3, ?_⟩
  unfold roomE
  have := totS_lt (c := fun q => E.top q + 1 - now q) (c' := fun q => E.top q + 1 - updN now p (goF E now p) q) (p := p) (fun q hq => by rw [updN_ne hq]) (by rw [updN_self]; omega) E.n
  rw [if_pos h1] at this
  omega
theorem inE_step {E : Elim} {now : Nat → Nat} (hI : InE E now) {p : Nat} (hl : goF E now p ≤ E.top p) : InE E (updN now p (goF E now p)) := fun q hq => by
  by_cases e : q = p
  · subst e; rw [updN_self]; exact hl
  · rw [updN_ne e]; exact hI q hq
theorem run_ex (E : Elim) : ∀ (m : Nat) (now : Nat → Nat), InE E now → roomE E now ≤ m → ∃ st fin l, RunR E now st fin l := by
  intro m
  induction m with
  | zero =>
    intro now hI hm
    cases h : stepP E now with
    | none => exact ⟨_, _, _, .stop h⟩
    | some p => have := (step_inv hI h).2.2.2.2.2.2; omega
  | succ m ih =>
    intro now hI hm
    cases h : stepP E now with
    | none => exact ⟨_, _, _, .stop h⟩
    | some p =>
      have h7 := (step_inv hI h).2.2.2.2.2.2
      by_cases hl : goF E now p ≤ E.top p
      · obtain ⟨st, fin, l, hr⟩ := ih _ (inE_step hI hl) (by omega)
        exact ⟨_, _, _, .go h hl hr⟩
      · exact ⟨_, _, _, .lost h (by omega)⟩
theorem inE_zero (E : Elim) : InE E fun _ => 0 := fun _ _ => Nat.zero_le _
open Classical in
noncomputable def stepsF (E : Elim) : List Stp := Classical.choose (run_ex E _ _ (inE_zero E) (Nat.le_refl _))
open Classical in
noncomputable def finF (E : Elim) : Nat → Nat := Classical.choose (Classical.choose_spec (run_ex E _ _ (inE_zero E) (Nat.le_refl _)))
open Classical in
noncomputable def lostF (E : Elim) : Bool := Classical.choose (Classical.choose_spec (Classical.choose_spec (run_ex E _ _ (inE_zero E) (Nat.le_refl _))))
theorem run_spec (E : Elim) : RunR E (fun _ => 0) (stepsF E) (finF E) (lostF E) := Classical.choose_spec (Classical.choose_spec (Classical.choose_spec (run_ex E _ _ (inE_zero E) (Nat.le_refl _))))
theorem run_lost {E : Elim} {now fin : Nat → Nat} {st : List Stp} {l : Bool} (h : RunR E now st fin l) (hI : InE E now) : (l = true ↔ ∃ q, q < E.n ∧ E.top q < fin q) := by
  induction h with
  | stop h =>
    constructor
    · intro h; cases h
    · rintro ⟨q, hq, h⟩
      have := hI q hq; omega
  | lost h hl => exact ⟨fun _ => ⟨_, (step_inv hI h).1, by rw [updN_self]; exact hl⟩, fun _ => rfl⟩
  | go h hl hr ih => exact ih (inE_step hI hl)
/-! ### What is found is least -/
end Go.AL
end
section
/- The board of the package conjunctive: which states are excluded, who is through, one step. No condition. -/
namespace Go.AL
open Go Go.RowKit
set_option maxRecDepth 4000
def okL (E : Elim) (p : Nat) : List AV := (List.range (E.top p + 1)).map fun k => ab (E.ok p k)
def okM (E : Elim) : List AV := (List.range E.n).map fun p => .sl 1 (okL E p)
def needL (E : Elim) (q m : Nat) : List AV := (List.range E.n).map fun p => ai (E.need q m p)
def needM (E : Elim) (q : Nat) : List AV := (List.range (E.top q + 1)).map fun m => .sl 1 (needL E q m)
def needT (E : Elim) : List AV := (List.range E.n).map fun q => .sl 1 (needM E q)
theorem okL_len (E : Elim) (p : Nat) : (okL E p).length = E.top p + 1 := by simp [okL]
theorem okM_len (E : Elim) : (okM E).length = E.n := by simp [okM]
theorem needL_len (E : Elim) (q m : Nat) : (needL E q m).length = E.n := by simp [needL]
theorem needM_len (E : Elim) (q : Nat) : (needM E q).length = E.top q + 1 := by simp [needM]
theorem needT_len (E : Elim) : (needT E).length = E.n := by simp [needT]
section
variable {E : Elim} {p q m k : Nat}
theorem okL_get (hk : k ≤ E.top p) : (okL E p).getD k .any = ab (E.ok p k) := map_range_getD (show k < E.top p + 1 by omega) _
theorem okM_get (hp : p < E.n) : (okM E).getD p .any = .sl 1 (okL E p) := map_range_getD hp _
theorem needL_get (hp : p < E.n) : (needL E q m).getD p .any = ai (E.need q m p) := map_range_getD hp _
theorem needM_get (hm : m ≤ E.top q) : (needM E q).getD m .any = .sl 1 (needL E q m) := map_range_getD (show m < E.top q + 1 by omega) _
theorem needT_get (hq : q < E.n) : (needT E).getD q .any = .sl 1 (needM E q) := map_range_getD hq _
end
def aBoard (E : Elim) (now : Nat → Nat) : AV := .rp 3 [.agg [.sl 1 (needT E), .sl 1 (okM E), .sl 1 (dnA E.n now)]] 0 0
structure SmE (E : Elim) : Prop where
  n : E.n ≤ 1000000
  top : ∀ q, E.top q ≤ 1000000
theorem board_excluded (E : Elim) (hE : SmE E) (now : Nat → Nat) (hI : InE E now) (p k : Nat) (hp : p < E.n) (hk : k ≤ E.top p) : PC Go.Proofs.Tryz.prog 142 [aBoard E now, ai p, ai k] (ab (exB E now p k)) := by
  have hn := hE.n
  have htp := hE.top p
  have g1 := okM_get hp
  have g2 := okL_get hk
  have hex : exB E now p k = (!E.ok p k || exB E now p k) := by
    cases h : exB E now p k with
    | true => rw [Bool.or_true]
    | false => rw [(exB_false.1 h).1]; rfl
  have hf := exB_false (E := E) (now := now) (p := p) (k := k)
  unfold aBoard
  generalize exB E now p k = B at *
  refine PC.enter 51 [.tmp 6] [] Go.Proofs.Tryz.func142 rfl rfl rfl rfl rfl (by simp) (AWp.of ?_); simp only [go_sem]
  repeat (first | ((with_reducible refine AWp.ofC ?_ ?_); (focus exact rfl); simp only [go_sem, g1, g2, okL_len, okM_len]) | ((with_reducible refine an ?_ ?_); focus exact Au))
  refine ⟨fun h1 => ?_, fun h1 => ?_⟩
  · repeat (first | ((with_reducible refine AWp.ofC ?_ ?_); (focus exact rfl); simp only [go_sem]) | ((with_reducible refine an ?_ ?_); focus exact Au))
    refine ret_eq ?_; simp only [go_sem]
    rw [hex, h1]; rfl
  · repeat (first | ((with_reducible refine AWp.ofC ?_ ?_); (focus exact rfl); simp only [go_sem, dnA_length]) | ((with_reducible refine an ?_ ?_); focus exact Au))
    refine AWp.range' E.n [] [0, 1, 2, 23, 24] (fun q vs L => L = [] ∧ ∀ j, j < q → j ≠ p → E.need j (now j) p ≤ k) (by omega) rfl rfl rfl ⟨rfl, fun j hj => by omega⟩ ?_ ?_
    · rintro q vs L hq - ⟨rfl, hJ⟩
      have n1 := dnA_get hq now
      have hnq := hI q hq
      have htq := hE.top q
      have g3 := needT_get hq
      have g4 := needM_get hnq
      have g5 := needL_get (q := q) (m := now q) hp
      by_cases e : q = p
      · subst e
        simp only [go_sem]
        repeat ((with_reducible refine an ?_ ?_); focus exact As)
        refine AWp.of ?_; simp only [go_sem, n1, dnA_length]
        repeat (first | ((with_reducible refine AWp.ofC ?_ ?_); (focus exact rfl); simp only [go_sem, g3, g4, g5, needL_len, needM_len, needT_len]) | ((with_reducible refine an ?_ ?_); focus exact Au))
        exact ⟨_, List.Sublist.refl _, rfl, fun j hj hn => hJ j (by omega) hn⟩
      · have ei : ¬ (q : Int) = p := by omega
        simp only [go_sem]
        repeat ((with_reducible refine an ?_ ?_); focus exact As)
        refine AWp.of ?_; simp only [go_sem, n1, dnA_length]
        repeat (first | ((with_reducible refine AWp.ofC ?_ ?_); (focus exact rfl); simp only [go_sem, ei, g3, g4, g5, needL_len, needM_len, needT_len]) | ((with_reducible refine an ?_ ?_); focus exact Au))
        refine ⟨fun h2 => ?_, fun h2 => ?_⟩
        · repeat (first | ((with_reducible refine AWp.ofC ?_ ?_); (focus exact rfl); simp only [go_sem]) | ((with_reducible refine an ?_ ?_); focus exact Au))
          refine ret_eq ?_; simp only [go_sem]
          cases B with
          | true => rfl
          | false => have := (hf.1 rfl).2 q hq e; omega
        · refine ⟨_, List.Sublist.refl _, rfl, fun j hj hn => ?_⟩
          by_cases ej : j = q
          · subst ej; omega
          · exact hJ j (by omega) hn
    · rintro vs L - ⟨rfl, hJ⟩
      simp only [go_sem]
      repeat (first | ((with_reducible refine AWp.ofC ?_ ?_); (focus exact rfl); simp only [go_sem]) | ((with_reducible refine an ?_ ?_); focus exact Au))
      refine ret_eq ?_; simp only [go_sem]
      rw [hf.2 ⟨by simpa using h1, fun q hq hn => hJ q hq hn⟩]
theorem board_left (E : Elim) (hE : SmE E) (now : Nat → Nat) (hnow : ∀ q, q < E.n → now q ≤ 1000001) (p : Nat) (hp : p < E.n) : PC Go.Proofs.Tryz.prog 129 [aBoard E now, ai p] (ab (decide (now p < E.top p + 1))) := by
  have hn := hE.n
  have htp := hE.top p
  have hnp := hnow p hp
  have g0 := dnA_get hp now
  have g1 := okM_get hp
  unfold aBoard
  refine PC.enter 21 [.tmp 4] [] Go.Proofs.Tryz.func129 rfl rfl rfl rfl rfl (by simp) (AWp.of ?_); simp only [go_sem]
  refine AWp.seq ?_
  refine AWp.mix mixed [0, 1, 2, 3, 4, 5, 6, 7, 8, 9, 10, 11, 12, 13, 14, 15, 16] .done (by kernel_rfl) ?_; simp only [go_sem, g0, g1, dnA_length, okL_len, okM_len]
  repeat ((with_reducible refine an ?_ ?_); focus exact As)
  repeat (first | ((with_reducible refine AWp.ofC ?_ ?_); (focus exact rfl); simp only [go_sem]) | ((with_reducible refine an ?_ ?_); focus exact Au))
  refine ret_eq ?_; simp only [go_sem]
  congr 2; simp only [decide_eq_decide]; omega
def lostB (E : Elim) (now : Nat → Nat) : Bool := (List.range E.n).any fun q => decide (E.top q < now q)
theorem board_lost (E : Elim) (hE : SmE E) (now : Nat → Nat) (hnow : ∀ q, q < E.n → now q ≤ 1000001) : PC Go.Proofs.Tryz.prog 71 [aBoard E now] (ab (lostB E now)) := by
  have hn := hE.n
  have hleft := fun p hp => board_left E hE now hnow p hp
  have hl : aBoard E now = .rp 3 [.agg [.sl 1 (needT E), .sl 1 (okM E), .sl 1 (dnA E.n now)]] 0 0 := rfl
  have h1 : ∀ q, q < E.n → E.top q < now q → lostB E now = true := fun q hq h => List.any_eq_true.2 ⟨q, List.mem_range.2 hq, decide_eq_true h⟩
  have h0 : (∀ q, q < E.n → ¬ E.top q < now q) → lostB E now = false := fun h => List.any_eq_false.2 fun q hq => by simpa using h q (List.mem_range.1 hq)
  generalize lostB E now = B at *
  rw [hl] at *
  refine PC.enter 17 [.tmp 2] [] Go.Proofs.Tryz.func71 rfl rfl rfl rfl rfl (by simp) (AWp.of ?_); simp only [go_sem]
  repeat (first | ((with_reducible refine AWp.ofC ?_ ?_); (focus exact rfl); simp only [go_sem, dnA_length]) | ((with_reducible refine an ?_ ?_); focus exact Au))
  refine AWp.range' E.n [] [0, 8] (fun q vs L => L = [] ∧ ∀ j, j < q → ¬ E.top j < now j) (by omega) rfl rfl rfl ⟨rfl, fun j hj => by omega⟩ ?_ ?_
  · rintro q vs L hq - ⟨rfl, hJ⟩
    simp only [go_sem]
    repeat (first | ((with_reducible refine AWp.ofC ?_ ?_); (focus exact rfl); simp only [go_sem]) | ((with_reducible refine an ?_ ?_); focus exact Au))
    repeat ((with_reducible refine an ?_ ?_); focus exact As)
    refine (hleft q hq).val.use ?_; simp only [go_sem]
    repeat (first | ((with_reducible refine AWp.ofC ?_ ?_); (focus exact rfl); simp only [go_sem]) | ((with_reducible refine an ?_ ?_); focus exact Au))
    refine ⟨fun h2 => ?_, fun h2 => ?_⟩
    · repeat (first | ((with_reducible refine AWp.ofC ?_ ?_); (focus exact rfl); simp only [go_sem]) | ((with_reducible refine an ?_ ?_); focus exact Au))
      refine ret_eq ?_; simp only [go_sem]
      rw [h1 q hq (by omega)]
    · refine ⟨_, List.Sublist.refl _, rfl, fun j hj => ?_⟩
      by_cases ej : j = q
      · subst ej; omega
      · exact hJ j (by omega)
  · rintro vs L - ⟨rfl, hJ⟩
    simp only [go_sem]
    repeat (first | ((with_reducible refine AWp.ofC ?_ ?_); (focus exact rfl); simp only [go_sem]) | ((with_reducible refine an ?_ ?_); focus exact Au))
    refine ret_eq ?_; simp only [go_sem]
    rw [h0 hJ]
/-- The memory of a board whose counts are owned. -/
def boardL (E : Elim) (now : Nat → Nat) (bb bn : Nat) : AHeap := [(bb, .row 116 3 [.agg [.sl 1 (needT E), .sl 1 (okM E), .ls bn 1 0 E.n E.n]] 1), (bn, .row 3 1 (dnA E.n now) E.n)]
end Go.AL
end
section
/- Closing counts: the packages cut and the reference of layer 22. No condition. -/
namespace Go.AL
open Go Go.RowKit
set_option maxRecDepth 4000
theorem Own.eid (x : Eid) : Own (aEid x) := Own.agg fun y hy => by
  simp only [List.mem_cons, List.not_mem_nil, or_false] at hy
  rcases hy with rfl | rfl <;> exact Own.v _
theorem Own.miss (ps : List Pr) (c : List Int) : Own (aMiss ps c) := by
  unfold aMiss
  split <;> exact Own.tup fun y hy => by
    simp only [List.mem_cons, List.not_mem_nil, or_false] at hy
    rcases hy with rfl | rfl | rfl
    · exact Own.eid _
    · exact Own.eid _
    · exact Own.v _
theorem cut_Close1 (c : List Int) (s r : Eid) (b n cap : Nat) (hn : n = c.length) (h0 : 0 ≤ s.1) (h1 : s.1 < c.length) : MCalls Go.Proofs.Tryz.prog 180 [.ls b 1 0 n cap, aEid s, aEid r] [(b, .row 3 1 (c.map ai) cap)] fun _ L => L = [(b, .row 3 1 ((c.set s.1.toNat s.2).map ai) cap)] := by
  subst hn
  have hg := getD_cAt (c := c) h0 h1
  refine MCalls.enter' 12 [] [4, 5] Go.Proofs.Tryz.func180 rfl rfl rfl rfl rfl (by simp) (AWp.of ?_); simp only [go_sem]
  repeat (first | ((with_reducible refine AWp.ofC ?_ ?_); (focus exact rfl); simp only [go_sem, hg]) | ((with_reducible refine an ?_ ?_); focus exact Au))
  refine ret_own ?_
  simp only [go_sem]
  rw [List.map_set]
theorem cut_repaired (ps : List Pr) (hs : Sm ps) (hv : validF ps = true) (c : List Int) (hc : c.length = ps.length) (hr : inRangeF ps c = true) :
    PC Go.Proofs.Tryz.prog 143 [aTr ps, aInts c, .v (.func (.func 180) #[] #[])] (.tup [aInts (closeF ps c), ai 0]) := by
  obtain ⟨hl1, hl8⟩ := valid_len hv
  have hs1 := cut_sized ps hs [c] (by simp)
  have e1 : sizedF ps [c] = true := by unfold sizedF; rw [hv]; simp [hc]
  rw [e1] at hs1
  have hs2 := cut_inRange ps hs c hc
  rw [hr] at hs2
  refine PC.enter 40 [.tmp 6, .tmp 7] [3, 9, 10, 15] Go.Proofs.Tryz.func143 rfl rfl rfl rfl rfl (by simp) (AWp.of ?_); simp only [go_sem]
  repeat (first | ((with_reducible refine AWp.ofC ?_ ?_); (focus exact rfl); simp only [go_sem]) | ((with_reducible refine an ?_ ?_); focus exact Au))
  repeat ((with_reducible refine an ?_ ?_); focus exact As)
  refine (hs1).val.use ?_; simp only [go_sem]
  repeat (first | ((with_reducible refine AWp.ofC ?_ ?_); (focus exact rfl); simp only [go_sem]) | ((with_reducible refine an ?_ ?_); focus exact Au))
  repeat ((with_reducible refine an ?_ ?_); focus exact As)
  refine (hs2).val.use ?_; simp only [go_sem]
  repeat (first | ((with_reducible refine AWp.ofC ?_ ?_); (focus exact rfl); simp only [go_sem]) | ((with_reducible refine an ?_ ?_); focus exact Au))
  refine (ints_cloneO c (by omega)).val.mono ?_
  rintro r L hA
  rcases hA.inv with ⟨e1, rfl, rfl⟩ | ⟨b, cap, rfl, rfl⟩
  · have : c.length = 0 := by simpa using congrArg List.length e1
    omega
  simp only [go_sem, List.length_map]
  repeat ((with_reducible refine an ?_ ?_); focus exact As)
  refine AWp.of ?_; simp only [go_sem]
  refine AWp.loopN [] [2, 3, 8] (fun m vs L => ∃ d, d.length = ps.length ∧ inRangeF ps d = true ∧ closeF ps d = closeF ps c ∧ m = off ps ps.length - totC d ∧ L = [(b, .row 3 1 (d.map ai) cap)]) (off ps ps.length - totC c) ⟨c, hc, hr, rfl, rfl, rfl⟩ ?_
  rintro m vs L - ⟨d, hd, hdr, hde, rfl, rfl⟩
  have hm := cut_missing ps hs d hv hd hdr
  have ho := Own.miss ps d
  have hvw : Vws [(b, .row 3 1 (d.map ai) cap)] [aTr ps, .ls b 1 0 c.length cap] [aTr ps, aInts d] := Vws.cons (.refl _) (Vws.cons (Vw.ofLs (if_pos rfl) (by rw [List.length_map]; omega)) .nil)
  simp only [go_sem]
  repeat (first | ((with_reducible refine AWp.ofC ?_ ?_); (focus exact rfl); simp only [go_sem]) | ((with_reducible refine an ?_ ?_); focus exact Au))
  cases h : missF ps d with
  | none =>
    rw [closeF_none h] at hde
    unfold aMiss at hm ho
    rw [h] at hm ho
    refine (PC.view hvw hm ho ?_).val
    simp only [go_sem]
    intro b9 g1 b10 g2 g3
    have n1 : ¬ b9 = b10 := by omega
    have n2 : ¬ b10 = b9 := by omega
    have n3 : ¬ b = b9 := by omega
    have n4 : ¬ b = b10 := by omega
    have n5 : ¬ b9 = b := by omega
    have n6 : ¬ b10 = b := by omega
    simp only [go_sem, n1, n6]
    repeat (first | ((with_reducible refine AWp.ofC ?_ ?_); (focus exact rfl); simp only [go_sem]) | ((with_reducible refine an ?_ ?_); focus exact Au))
    refine ret_view [true] ?_; simp only [go_sem]
    rw [← hde]
    exact .mkTup (Vws.cons (Vw.ofLs (if_pos rfl) (by rw [List.length_map]; omega)) (Vws.refl _))
  | some x =>
    obtain ⟨a1, a2, a3⟩ := miss_next hv hd hdr h
    have hst := closeF_step hv hd hdr h
    have ht := totC_le a1 a2
    obtain ⟨_, _, _, _, q, hq, j, hj, _, _, _, hx, _⟩ := miss_inv hv hd h
    have hx1 : 0 ≤ x.1.1 ∧ x.1.1 < d.length := by rw [hx]; dsimp only; omega
    unfold aMiss at hm ho
    rw [h] at hm ho
    clear hx
    obtain ⟨s, r⟩ := x
    refine (PC.view hvw hm ho ?_).val
    simp only [go_sem]
    intro b9 g1 b10 g2 g3
    have n1 : ¬ b9 = b10 := by omega
    have n2 : ¬ b10 = b9 := by omega
    have n3 : ¬ b = b9 := by omega
    have n4 : ¬ b = b10 := by omega
    have n5 : ¬ b9 = b := by omega
    have n6 : ¬ b10 = b := by omega
    simp only [go_sem, n1, n6]
    repeat (first | ((with_reducible refine AWp.ofC ?_ ?_); (focus exact rfl); simp only [go_sem]) | ((with_reducible refine an ?_ ?_); focus exact Au))
    refine (cut_Close1 d s r b c.length cap (by omega) hx1.1 hx1.2).val.mono ?_
    rintro r L rfl
    simp only [go_sem]
    repeat (first | ((with_reducible refine AWp.ofC ?_ ?_); (focus exact rfl); simp only [go_sem]) | ((with_reducible refine an ?_ ?_); focus exact Au))
    exact ⟨_, List.Sublist.refl _, _, by omega, _, a1, a2, by rw [← hst, hde], rfl, rfl⟩
theorem cut_Close (ps : List Pr) (hs : Sm ps) (hv : validF ps = true) (c : List Int) (hc : c.length = ps.length) (hr : inRangeF ps c = true) :
    PC Go.Proofs.Tryz.prog 127 [aTr ps, aInts c] (.tup [aInts (closeF ps c), ai 0]) := by
  have h := cut_repaired ps hs hv c hc hr
  refine PC.enter 11 [.tmp 4, .tmp 5] [2] Go.Proofs.Tryz.func127 rfl rfl rfl rfl rfl (by simp) (AWp.of ?_); simp only [go_sem]
  repeat (first | ((with_reducible refine AWp.ofC ?_ ?_); (focus exact rfl); simp only [go_sem]) | ((with_reducible refine an ?_ ?_); focus exact Au))
  repeat ((with_reducible refine an ?_ ?_); focus exact As)
  refine (h).val.use ?_; simp only [go_sem]
  repeat (first | ((with_reducible refine AWp.ofC ?_ ?_); (focus exact rfl); simp only [go_sem]) | ((with_reducible refine an ?_ ?_); focus exact Au))
  refine ret_eq ?_; simp only [go_sem]
/-! ### The reference -/
theorem stC_ok {ps : List Pr} {p : Nat} {k : Int} (hp : p < ps.length) (h0 : 0 ≤ k) (hk : k ≤ ps[p].evs.length) : (stC ps.length p k).length = ps.length ∧ inRangeF ps (stC ps.length p k) = true := by
  have hl : (stC ps.length p k).length = ps.length := by unfold stC; rw [List.length_set, List.length_replicate]
  refine ⟨hl, ?_⟩
  rw [inRange_iff hl]
  intro q hq
  unfold cAt stC
  rw [Int.toNat_natCast, getD_set0]
  split
  · rename_i e; obtain ⟨rfl, _⟩ := e; omega
  · rw [List.getD_eq_getElem?_getD, List.getElem?_replicate, if_pos hq]
    exact ⟨Int.le_refl 0, by simp⟩
end Go.AL
end
section
/- The reference's values of expressions and truth of predicates. No condition. -/
namespace Go.AL
open Go Go.RowKit
set_option maxRecDepth 4000
theorem ref25_Index (ps : List Pr) (hs : Sm ps) (p : Int) (hpb : isPB ps.length p = true) (s : ByteArray) : PC Go.Proofs.Tryz.prog 225 [aTr ps, ai p, astr s] (ai (varX ps p s)) := by
  obtain ⟨p, rfl, hp⟩ := isPB_nat hpb
  rw [varX_get hp]
  have hm := List.getElem_mem hp
  have hvl := hs.vars _ hm
  have hgp := getD_map (f := aPr) hp
  have hhit : ∀ i (hi : i < ps[p].vars.length), (∀ j (hj : j < ps[p].vars.length), j < i → nmB s ps[p].vars[j] = false) → nmB s ps[p].vars[i] = true → varIx ps[p].vars s = i := by
    intro i hi h0 h1
    have : ps[p].vars.findIdx? (nmB s) = some i := by rw [List.findIdx?_eq_some_iff_getElem]; exact ⟨hi, h1, fun j hj => by simpa using h0 j (by omega) hj⟩
    unfold varIx; rw [this]
  have hno : (∀ j (hj : j < ps[p].vars.length), nmB s ps[p].vars[j] = false) → varIx ps[p].vars s = -1 := by
    intro h0
    have : ps[p].vars.findIdx? (nmB s) = none := by
      rw [List.findIdx?_eq_none_iff]; intro x hx; obtain ⟨i, hi, rfl⟩ := List.getElem_of_mem hx; exact h0 i hi
    unfold varIx; rw [this]
  generalize varIx ps[p].vars s = r at *
  refine PC.enter 29 [.tmp 6] [3] Go.Proofs.Tryz.func225 rfl rfl rfl rfl rfl (by simp) (AWp.of ?_); simp only [go_sem]
  repeat (first | ((with_reducible refine AWp.ofC ?_ ?_); (focus exact rfl); simp only [go_sem, hgp]) | ((with_reducible refine an ?_ ?_); focus exact Au))
  refine AWp.block (AWp.count 8 ps[p].vars.length [] [2, 7] (fun i vs L => L = [] ∧ ∀ j (hj : j < ps[p].vars.length), j < i → nmB s ps[p].vars[j] = false) rfl rfl ⟨rfl, by omega⟩ ?_)
  rintro i vs L hi - ⟨rfl, hI⟩
  simp only [go_sem]
  repeat (first | ((with_reducible refine AWp.ofC ?_ ?_); (focus exact rfl); simp only [go_sem]) | ((with_reducible refine an ?_ ?_); focus exact Au))
  refine ⟨fun h1 => ?_, fun h1 => ?_⟩
  · have hiv : i < ps[p].vars.length := by omega
    have hgv := getD_map (f := aVar) hiv
    repeat (first | ((with_reducible refine AWp.ofC ?_ ?_); (focus exact rfl); simp only [go_sem, hgv]) | ((with_reducible refine an ?_ ?_); focus exact Au))
    refine ⟨fun h2 => ?_, fun h2 => ?_⟩
    · repeat (first | ((with_reducible refine AWp.ofC ?_ ?_); (focus exact rfl); simp only [go_sem]) | ((with_reducible refine an ?_ ?_); focus exact Au))
      refine ret_eq ?_; simp only [go_sem]
      rw [hhit i hiv hI (decide_eq_true h2)]
    · repeat (first | ((with_reducible refine AWp.ofC ?_ ?_); (focus exact rfl); simp only [go_sem]) | ((with_reducible refine an ?_ ?_); focus exact Au))
      refine ⟨_, List.Sublist.refl _, rfl, fun j hj hji => ?_⟩
      by_cases e : j = i
      · subst e; exact decide_eq_false h2
      · exact hI j hj (by omega)
  · repeat (first | ((with_reducible refine AWp.ofC ?_ ?_); (focus exact rfl); simp only [go_sem]) | ((with_reducible refine an ?_ ?_); focus exact Au))
    refine ret_eq ?_; simp only [go_sem]
    rw [hno fun j hj => hI j hj (by omega)]
def leafR (ps : List Pr) (c : List Int) (o : Obs) : Pd → Prop
  | .mk k _ p _ s _ => (k = 2 → ∃ ix cv : Int, PC Go.Proofs.Tryz.prog 225 [aTr ps, ai p, astr s] (ai ix) ∧ PC Go.Proofs.Tryz.prog 224 [aTr ps, ai p, ai ix, ai cv] (ai (o.var p s)) ∧ 0 ≤ p ∧ c[p.toNat]? = some cv) ∧ (k = 3 → 0 ≤ p ∧ c[p.toNat]? = some (o.cnt p)) ∧ (k = 4 → False)
theorem ref29_Value (ps : List Pr) (c : List Int) (o : Obs) (_hcl : c.length ≤ 1000000) (t : Pd) : szF t ≤ 1000000 → okT ps t = true → t.kind ≤ 8 → (intF ps t).2.2 = true → AllP (obsB ps o) t → AllP (leafR ps c o) t →
    PC Go.Proofs.Tryz.prog 187 [aTr ps, aInts c, aPd t] (ai (valF o t)) := by
  induction t using Pd.ind with
  | _ k n p q s l ih =>
  intro hz ht hk hi hob hlf
  have hbnd := valF_bounds ps o _ ht hk hob hi
  obtain ⟨o1, o2, o3, o4⟩ := okT_sub ht
  obtain ⟨hpl, _⟩ := loc_len o1
  simp only [Pd.kind] at hk
  have hch := child_le ht (show k ≤ 12 by omega)
  have hsz : szF (.mk k n p q s l) = szL l + 1 := by rw [szF]
  have hsp := valF_mk o k n p q s l
  have hci := bd_child hi
  obtain ⟨⟨lf2, lf3, lf4⟩, hls⟩ := AllP_sub hlf
  obtain ⟨_, hos⟩ := AllP_sub hob
  generalize valF o (.mk k n p q s l) = R at *
  have hb : -1125899906842624 ≤ R ∧ R ≤ 1125899906842624 := by omega
  clear hbnd hi
  have hcb := fun (x : Pd) (hx : x ∈ l) (h : l.length ≤ 2) => valF_bounds ps o x (hch x hx).1 (hch x hx).2 (hos x hx) (hci h x hx)
  rcases parts_cases k with ⟨e, hc⟩ | ⟨e, hc⟩ | ⟨e, hc⟩ | e
  · obtain rfl := len0 (l := l) (by omega)
    simp only [List.map_nil, valN, aPd_mk] at *
    have hk4 : k = 1 ∨ k = 2 ∨ k = 3 ∨ k = 4 := by omega
    rcases hk4 with h | h | h | h
    · have hsp : R = n := by rw [hsp, if_pos h]
      refine PC.enter 106 [.tmp 6] [3, 5] Go.Proofs.Tryz.func187 rfl rfl rfl rfl rfl (by simp) (AWp.of ?_); simp only [go_sem]
      repeat (first | ((with_reducible refine AWp.ofC ?_ ?_); (focus exact rfl); simp only [go_sem, (eq_true h)]) | ((with_reducible refine an ?_ ?_); focus exact Au))
      refine ret_eq ?_; simp only [go_sem]
      rw [hsp]
    · obtain ⟨ix, cv, g1, g2, g3, g4⟩ := lf2 h
      obtain ⟨hpc, hpe⟩ := List.getElem?_eq_some_iff.1 g4
      have hg := getD_map (f := ai) hpc
      rw [hpe] at hg
      have h1 : ¬ k = 1 := by omega
      rw [if_neg h1, if_pos h] at hsp
      refine PC.enter 106 [.tmp 6] [3, 5] Go.Proofs.Tryz.func187 rfl rfl rfl rfl rfl (by simp) (AWp.of ?_); simp only [go_sem]
      repeat (first | ((with_reducible refine AWp.ofC ?_ ?_); (focus exact rfl); simp only [go_sem, (eq_true h), h1]) | ((with_reducible refine an ?_ ?_); focus exact Au))
      refine AWp.mix mixed [0, 1, 2, 3, 4, 5, 6, 7, 8, 9, 10, 11, 12, 13, 14, 15] .done (by kernel_rfl) ?_; simp only [go_sem]
      repeat ((with_reducible refine an ?_ ?_); focus exact As)
      refine GCall.use (ai ix) (fun _ => ⟨At, (g1).val.use ⟨rfl, rfl⟩⟩) ?_; simp only [go_sem, hg]
      repeat ((with_reducible refine an ?_ ?_); focus exact As)
      refine GCall.use (ai (o.var p s)) (fun _ => ⟨At, (g2).val.use ⟨rfl, rfl⟩⟩) ?_; simp only [go_sem]
      repeat ((with_reducible refine an ?_ ?_); focus exact As)
      repeat (first | ((with_reducible refine AWp.ofC ?_ ?_); (focus exact rfl); simp only [go_sem]) | ((with_reducible refine an ?_ ?_); focus exact Au))
      refine ret_eq ?_; simp only [go_sem]
      rw [hsp]
    · obtain ⟨p0, pc⟩ := lf3 h
      obtain ⟨hpc, hpe⟩ := List.getElem?_eq_some_iff.1 pc
      have hg := getD_map (f := ai) hpc
      have h1 : ¬ k = 1 := by omega
      have h2 : ¬ k = 2 := by omega
      rw [if_neg h1, if_neg h2, if_pos h] at hsp
      rw [hpe] at hg
      refine PC.enter 106 [.tmp 6] [3, 5] Go.Proofs.Tryz.func187 rfl rfl rfl rfl rfl (by simp) (AWp.of ?_); simp only [go_sem]
      repeat (first | ((with_reducible refine AWp.ofC ?_ ?_); (focus exact rfl); simp only [go_sem, (eq_true h), h1, h2, hg]) | ((with_reducible refine an ?_ ?_); focus exact Au))
      refine ret_eq ?_; simp only [go_sem]
      rw [hsp]
    · exact (lf4 h).elim
  · obtain ⟨a, rfl⟩ := len1 (l := l) (by omega)
    have h5 : k = 5 := by omega
    have h1 : ¬ k = 1 := by omega
    have h2 : ¬ k = 2 := by omega
    have h3 : ¬ k = 3 := by omega
    have h4 : ¬ k = 4 := by omega
    obtain ⟨c1, c2⟩ := hch a (by simp)
    have hza := szL_mem (l := [a]) (x := a) (by simp)
    have hca := ih a (by simp) (by omega) c1 c2 (hci (by simp) a (by simp)) (hos a (by simp)) (hls a (by simp))
    have hcb := hcb a (by simp) (by simp)
    simp only [List.map_cons, List.map_nil, valN] at hsp
    generalize valF o a = A at *
    obtain ⟨ka, na, pa, qa, sa, la⟩ := a
    simp only [aPd_mk, List.map_cons, List.map_nil] at *
    refine PC.enter 106 [.tmp 6] [3, 5] Go.Proofs.Tryz.func187 rfl rfl rfl rfl rfl (by simp) (AWp.of ?_); simp only [go_sem]
    repeat (first | ((with_reducible refine AWp.ofC ?_ ?_); (focus exact rfl); simp only [go_sem, (eq_true h5), h1, h2, h3, h4]) | ((with_reducible refine an ?_ ?_); focus exact Au))
    refine AWp.mix mixed [0, 1, 2, 3, 4, 5, 6, 7, 8] .done (by kernel_rfl) ?_; simp only [go_sem]
    repeat ((with_reducible refine an ?_ ?_); focus exact As)
    refine GCall.use (ai A) (fun _ => ⟨At, (hca).val.use ⟨rfl, rfl⟩⟩) ?_; simp only [go_sem]
    repeat ((with_reducible refine an ?_ ?_); focus exact As)
    repeat (first | ((with_reducible refine AWp.ofC ?_ ?_); (focus exact rfl); simp only [go_sem]) | ((with_reducible refine an ?_ ?_); focus exact Au))
    refine ret_eq ?_; simp only [go_sem]
    rw [hsp]
  · obtain ⟨a, b, rfl⟩ := len2 (l := l) (by omega)
    have h1 : ¬ k = 1 := by omega
    have h2 : ¬ k = 2 := by omega
    have h3 : ¬ k = 3 := by omega
    have h4 : ¬ k = 4 := by omega
    have h5 : ¬ k = 5 := by omega
    obtain ⟨c1, c2⟩ := hch a (by simp)
    obtain ⟨c3, c4⟩ := hch b (by simp)
    have hza := szL_mem (l := [a, b]) (x := a) (by simp)
    have hzb := szL_mem (l := [a, b]) (x := b) (by simp)
    have hca := ih a (by simp) (by omega) c1 c2 (hci (by simp) a (by simp)) (hos a (by simp)) (hls a (by simp))
    have hcc := ih b (by simp) (by omega) c3 c4 (hci (by simp) b (by simp)) (hos b (by simp)) (hls b (by simp))
    have hcba := hcb a (by simp) (by simp)
    have hcbb := hcb b (by simp) (by simp)
    simp only [List.map_cons, List.map_nil, valN] at hsp
    have hmw := fun h => mulW_eq (a := valF o a) (b := valF o b) h
    generalize valF o a = A at *
    generalize valF o b = B at *
    obtain ⟨ka, na, pa, qa, sa, la⟩ := a
    obtain ⟨kb, nb, pb, qb, sb, lb⟩ := b
    simp only [aPd_mk, List.map_cons, List.map_nil] at *
    refine PC.enter 106 [.tmp 6] [3, 5] Go.Proofs.Tryz.func187 rfl rfl rfl rfl rfl (by simp) (AWp.of ?_); simp only [go_sem]
    by_cases h6 : k = 6
    · rw [if_pos h6] at hsp
      repeat (first | ((with_reducible refine AWp.ofC ?_ ?_); (focus exact rfl); simp only [go_sem, (eq_true h6), h1, h2, h3, h4, h5]) | ((with_reducible refine an ?_ ?_); focus exact Au))
      refine AWp.mix mixed [0, 1, 2, 3, 4, 5, 6, 7, 8, 9, 10, 11, 12, 13, 14, 15] .done (by kernel_rfl) ?_; simp only [go_sem]
      repeat ((with_reducible refine an ?_ ?_); focus exact As)
      refine GCall.use (ai A) (fun _ => ⟨At, (hca).val.use ⟨rfl, rfl⟩⟩) ?_; simp only [go_sem]
      repeat ((with_reducible refine an ?_ ?_); focus exact As)
      refine GCall.use (ai B) (fun _ => ⟨At, (hcc).val.use ⟨rfl, rfl⟩⟩) ?_; simp only [go_sem]
      repeat ((with_reducible refine an ?_ ?_); focus exact As)
      repeat (first | ((with_reducible refine AWp.ofC ?_ ?_); (focus exact rfl); simp only [go_sem]) | ((with_reducible refine an ?_ ?_); focus exact Au))
      refine ret_eq ?_; simp only [go_sem]
      rw [hsp]
    by_cases h7 : k = 7
    · rw [if_neg h6, if_pos h7] at hsp
      repeat (first | ((with_reducible refine AWp.ofC ?_ ?_); (focus exact rfl); simp only [go_sem, (eq_true h7), h1, h2, h3, h4, h5, h6]) | ((with_reducible refine an ?_ ?_); focus exact Au))
      refine AWp.mix mixed [0, 1, 2, 3, 4, 5, 6, 7, 8, 9, 10, 11, 12, 13, 14, 15] .done (by kernel_rfl) ?_; simp only [go_sem]
      repeat ((with_reducible refine an ?_ ?_); focus exact As)
      refine GCall.use (ai A) (fun _ => ⟨At, (hca).val.use ⟨rfl, rfl⟩⟩) ?_; simp only [go_sem]
      repeat ((with_reducible refine an ?_ ?_); focus exact As)
      refine GCall.use (ai B) (fun _ => ⟨At, (hcc).val.use ⟨rfl, rfl⟩⟩) ?_; simp only [go_sem]
      repeat ((with_reducible refine an ?_ ?_); focus exact As)
      repeat (first | ((with_reducible refine AWp.ofC ?_ ?_); (focus exact rfl); simp only [go_sem]) | ((with_reducible refine an ?_ ?_); focus exact Au))
      refine ret_eq ?_; simp only [go_sem]
      rw [hsp]
    rw [if_neg h6, if_neg h7] at hsp
    have hmw := hmw (by rw [← hsp]; unfold I64; omega)
    repeat (first | ((with_reducible refine AWp.ofC ?_ ?_); (focus exact rfl); simp only [go_sem, h1, h2, h3, h4, h5, h6, h7]) | ((with_reducible refine an ?_ ?_); focus exact Au))
    refine AWp.seq ?_
    refine AWp.mix mixed [0, 1, 2, 3, 4, 5, 6, 7, 8, 9, 10, 11, 12, 13, 14, 15] .done (by kernel_rfl) ?_; simp only [go_sem]
    repeat ((with_reducible refine an ?_ ?_); focus exact As)
    refine GCall.use (ai A) (fun _ => ⟨At, (hca).val.use ⟨rfl, rfl⟩⟩) ?_; simp only [go_sem]
    repeat ((with_reducible refine an ?_ ?_); focus exact As)
    refine GCall.use (ai B) (fun _ => ⟨At, (hcc).val.use ⟨rfl, rfl⟩⟩) ?_; simp only [go_sem]
    repeat ((with_reducible refine an ?_ ?_); focus exact As)
    repeat (first | ((with_reducible refine AWp.ofC ?_ ?_); (focus exact rfl); simp only [go_sem, hmw]) | ((with_reducible refine an ?_ ?_); focus exact Au))
    refine ret_eq ?_; simp only [go_sem]
    rw [hsp]
  · omega
theorem ref29_Truth (ps : List Pr) (c : List Int) (o : Obs) (hcl : c.length ≤ 1000000) (t : Pd) : szF t ≤ 1000000 → okT ps t = true → 9 ≤ t.kind → fitB ps t = true → allB ntmB t = true → AllP (obsB ps o) t → AllP (leafR ps c o) t →
    PC Go.Proofs.Tryz.prog 140 [aTr ps, aInts c, aPd t] (ab (truF o t)) := by
  induction t using Pd.ind with
  | _ k n p q s l ih =>
  intro hz ht hk hi htm hob hlf
  obtain ⟨o1, o2, o3, o4⟩ := okT_sub ht
  obtain ⟨hpl, _⟩ := loc_len o1
  simp only [Pd.kind] at hk
  obtain ⟨ht1, ht2⟩ := allB_sub htm
  have hnt : ¬ (18 ≤ k ∧ k ≤ 21) := by unfold ntmB tempB at ht1; simp at ht1; omega
  have hsz : szF (.mk k n p q s l) = szL l + 1 := by rw [szF]
  have hsp := truF_mk o k n p q s l
  have hfc := fit_child hi hk
  obtain ⟨_, hls⟩ := AllP_sub hlf
  obtain ⟨_, hos⟩ := AllP_sub hob
  generalize truF o (.mk k n p q s l) = R at *
  unfold truN at hsp
  by_cases h12 : k ≤ 12
  · have hch := child_le ht h12
    obtain ⟨a, b, rfl⟩ := len2 (l := l) (by rcases parts_cases k with ⟨e, hc⟩ | ⟨e, hc⟩ | ⟨e, hc⟩ | e <;> omega)
    obtain ⟨c1, c2⟩ := hch a (by simp)
    obtain ⟨c3, c4⟩ := hch b (by simp)
    have hza := szL_mem (l := [a, b]) (x := a) (by simp)
    have hzb := szL_mem (l := [a, b]) (x := b) (by simp)
    have hca := ref29_Value ps c o hcl a (by omega) c1 c2 (fit_int (hfc a (by simp)) c2) (hos a (by simp)) (hls a (by simp))
    have hcc := ref29_Value ps c o hcl b (by omega) c3 c4 (fit_int (hfc b (by simp)) c4) (hos b (by simp)) (hls b (by simp))
    simp only [List.map_cons, List.map_nil, List.getD_cons_zero, List.getD_cons_succ] at hsp
    generalize valF o a = A at *
    generalize valF o b = B at *
    clear ih hlf hls hob hos htm ht2 hch hfc
    obtain ⟨ka, na, pa, qa, sa, la⟩ := a
    obtain ⟨kb, nb, pb, qb, sb, lb⟩ := b
    simp only [aPd_mk, List.map_cons, List.map_nil] at *
    refine PC.enter 125 [.tmp 6] [3, 5] Go.Proofs.Tryz.func140 rfl rfl rfl rfl rfl (by simp) (AWp.of ?_); simp only [go_sem]
    by_cases h9 : k = 9
    · rw [if_pos h9] at hsp
      repeat (first | ((with_reducible refine AWp.ofC ?_ ?_); (focus exact rfl); simp only [go_sem, (eq_true h9)]) | ((with_reducible refine an ?_ ?_); focus exact Au))
      refine AWp.mix mixed [0, 1, 2, 3, 4, 5, 6, 7, 8, 9, 10, 11, 12, 13, 14, 15] .done (by kernel_rfl) ?_; simp only [go_sem]
      repeat ((with_reducible refine an ?_ ?_); focus exact As)
      refine GCall.use (ai A) (fun _ => ⟨At, (hca).val.use ⟨rfl, rfl⟩⟩) ?_; simp only [go_sem]
      repeat ((with_reducible refine an ?_ ?_); focus exact As)
      refine GCall.use (ai B) (fun _ => ⟨At, (hcc).val.use ⟨rfl, rfl⟩⟩) ?_; simp only [go_sem]
      repeat ((with_reducible refine an ?_ ?_); focus exact As)
      repeat (first | ((with_reducible refine AWp.ofC ?_ ?_); (focus exact rfl); simp only [go_sem]) | ((with_reducible refine an ?_ ?_); focus exact Au))
      refine ret_eq ?_; simp only [go_sem]
      rw [hsp]
    by_cases h10 : k = 10
    · rw [if_neg h9, if_pos h10] at hsp
      repeat (first | ((with_reducible refine AWp.ofC ?_ ?_); (focus exact rfl); simp only [go_sem, (eq_true h10), h9]) | ((with_reducible refine an ?_ ?_); focus exact Au))
      refine AWp.mix mixed [0, 1, 2, 3, 4, 5, 6, 7, 8, 9, 10, 11, 12, 13, 14, 15] .done (by kernel_rfl) ?_; simp only [go_sem]
      repeat ((with_reducible refine an ?_ ?_); focus exact As)
      refine GCall.use (ai A) (fun _ => ⟨At, (hca).val.use ⟨rfl, rfl⟩⟩) ?_; simp only [go_sem]
      repeat ((with_reducible refine an ?_ ?_); focus exact As)
      refine GCall.use (ai B) (fun _ => ⟨At, (hcc).val.use ⟨rfl, rfl⟩⟩) ?_; simp only [go_sem]
      repeat ((with_reducible refine an ?_ ?_); focus exact As)
      repeat (first | ((with_reducible refine AWp.ofC ?_ ?_); (focus exact rfl); simp only [go_sem]) | ((with_reducible refine an ?_ ?_); focus exact Au))
      refine ret_eq ?_; simp only [go_sem]
      rw [hsp]
    by_cases h11 : k = 11
    · rw [if_neg h9, if_neg h10, if_pos h11] at hsp
      repeat (first | ((with_reducible refine AWp.ofC ?_ ?_); (focus exact rfl); simp only [go_sem, (eq_true h11), h9, h10]) | ((with_reducible refine an ?_ ?_); focus exact Au))
      refine AWp.mix mixed [0, 1, 2, 3, 4, 5, 6, 7, 8, 9, 10, 11, 12, 13, 14, 15] .done (by kernel_rfl) ?_; simp only [go_sem]
      repeat ((with_reducible refine an ?_ ?_); focus exact As)
      refine GCall.use (ai A) (fun _ => ⟨At, (hca).val.use ⟨rfl, rfl⟩⟩) ?_; simp only [go_sem]
      repeat ((with_reducible refine an ?_ ?_); focus exact As)
      refine GCall.use (ai B) (fun _ => ⟨At, (hcc).val.use ⟨rfl, rfl⟩⟩) ?_; simp only [go_sem]
      repeat ((with_reducible refine an ?_ ?_); focus exact As)
      repeat (first | ((with_reducible refine AWp.ofC ?_ ?_); (focus exact rfl); simp only [go_sem]) | ((with_reducible refine an ?_ ?_); focus exact Au))
      refine ret_eq ?_; simp only [go_sem]
      rw [hsp]
    have h12 : k = 12 := by omega
    rw [if_neg h9, if_neg h10, if_neg h11, if_pos h12] at hsp
    repeat (first | ((with_reducible refine AWp.ofC ?_ ?_); (focus exact rfl); simp only [go_sem, (eq_true h12), h9, h10, h11]) | ((with_reducible refine an ?_ ?_); focus exact Au))
    refine AWp.mix mixed [0, 1, 2, 3, 4, 5, 6, 7, 8, 9, 10, 11, 12, 13, 14, 15] .done (by kernel_rfl) ?_; simp only [go_sem]
    repeat ((with_reducible refine an ?_ ?_); focus exact As)
    refine GCall.use (ai A) (fun _ => ⟨At, (hca).val.use ⟨rfl, rfl⟩⟩) ?_; simp only [go_sem]
    repeat ((with_reducible refine an ?_ ?_); focus exact As)
    refine GCall.use (ai B) (fun _ => ⟨At, (hcc).val.use ⟨rfl, rfl⟩⟩) ?_; simp only [go_sem]
    repeat ((with_reducible refine an ?_ ?_); focus exact As)
    repeat (first | ((with_reducible refine AWp.ofC ?_ ?_); (focus exact rfl); simp only [go_sem]) | ((with_reducible refine an ?_ ?_); focus exact Au))
    refine ret_eq ?_; simp only [go_sem]
    rw [hsp]
  have h9 : ¬ k = 9 := by omega
  have h10 : ¬ k = 10 := by omega
  have h11 : ¬ k = 11 := by omega
  have h12 : ¬ k = 12 := by omega
  rw [if_neg h9, if_neg h10, if_neg h11, if_neg h12] at hsp
  have hch := child_bool ht (by omega)
  rcases parts_cases k with ⟨e, hc⟩ | ⟨e, hc⟩ | ⟨e, hc⟩ | e
  · obtain rfl := len0 (l := l) (by omega)
    simp only [aPd_mk, List.map_nil] at *
    refine PC.enter 125 [.tmp 6] [3, 5] Go.Proofs.Tryz.func140 rfl rfl rfl rfl rfl (by simp) (AWp.of ?_); simp only [go_sem]
    by_cases h13 : k = 13
    · rw [if_pos h13] at hsp
      repeat (first | ((with_reducible refine AWp.ofC ?_ ?_); (focus exact rfl); simp only [go_sem, (eq_true h13), h9, h10, h11, h12]) | ((with_reducible refine an ?_ ?_); focus exact Au))
      refine ret_eq ?_; simp only [go_sem]
      rw [hsp]
    · have h14 : k = 14 := by omega
      rw [if_neg h13, if_pos h14] at hsp
      have h15 : ¬ k = 15 := by omega
      have h16 : ¬ k = 16 := by omega
      have h17 : ¬ k = 17 := by omega
      repeat (first | ((with_reducible refine AWp.ofC ?_ ?_); (focus exact rfl); simp only [go_sem, h9, h10, h11, h12, h13, h15, h16, h17]) | ((with_reducible refine an ?_ ?_); focus exact Au))
      refine ret_eq ?_; simp only [go_sem]
      rw [hsp]
  · obtain ⟨a, rfl⟩ := len1 (l := l) (by omega)
    have h13 : ¬ k = 13 := by omega
    have h14 : ¬ k = 14 := by omega
    have h15 : k = 15 := by omega
    obtain ⟨c1, c2⟩ := hch a (by simp)
    have hza := szL_mem (l := [a]) (x := a) (by simp)
    have hca := ih a (by simp) (by omega) c1 c2 (hfc a (by simp)) (ht2 a (by simp)) (hos a (by simp)) (hls a (by simp))
    simp only [List.map_cons, List.map_nil, List.getD_cons_zero, if_neg h13, if_neg h14, if_pos h15] at hsp
    generalize truF o a = A at *
    clear ih hlf hls hob hos htm ht2 hch hfc
    obtain ⟨ka, na, pa, qa, sa, la⟩ := a
    simp only [aPd_mk, List.map_cons, List.map_nil] at *
    refine PC.enter 125 [.tmp 6] [3, 5] Go.Proofs.Tryz.func140 rfl rfl rfl rfl rfl (by simp) (AWp.of ?_); simp only [go_sem]
    repeat (first | ((with_reducible refine AWp.ofC ?_ ?_); (focus exact rfl); simp only [go_sem, (eq_true h15), h9, h10, h11, h12, h13]) | ((with_reducible refine an ?_ ?_); focus exact Au))
    refine AWp.mix mixed [0, 1, 2, 3, 4, 5, 6, 7, 8] .done (by kernel_rfl) ?_; simp only [go_sem]
    repeat ((with_reducible refine an ?_ ?_); focus exact As)
    refine GCall.use (ab A) (fun _ => ⟨At, (hca).val.use ⟨rfl, rfl⟩⟩) ?_; simp only [go_sem]
    repeat ((with_reducible refine an ?_ ?_); focus exact As)
    repeat (first | ((with_reducible refine AWp.ofC ?_ ?_); (focus exact rfl); simp only [go_sem]) | ((with_reducible refine an ?_ ?_); focus exact Au))
    refine ret_eq ?_; simp only [go_sem]
    rw [hsp]
  · obtain ⟨a, b, rfl⟩ := len2 (l := l) (by omega)
    have h13 : ¬ k = 13 := by omega
    have h14 : ¬ k = 14 := by omega
    have h15 : ¬ k = 15 := by omega
    obtain ⟨c1, c2⟩ := hch a (by simp)
    obtain ⟨c3, c4⟩ := hch b (by simp)
    have hza := szL_mem (l := [a, b]) (x := a) (by simp)
    have hzb := szL_mem (l := [a, b]) (x := b) (by simp)
    have hca := ih a (by simp) (by omega) c1 c2 (hfc a (by simp)) (ht2 a (by simp)) (hos a (by simp)) (hls a (by simp))
    have hcc := ih b (by simp) (by omega) c3 c4 (hfc b (by simp)) (ht2 b (by simp)) (hos b (by simp)) (hls b (by simp))
    simp only [List.map_cons, List.map_nil, List.getD_cons_zero, List.getD_cons_succ, if_neg h13, if_neg h14, if_neg h15] at hsp
    generalize truF o a = A at *
    generalize truF o b = B at *
    clear ih hlf hls hob hos htm ht2 hch hfc
    obtain ⟨ka, na, pa, qa, sa, la⟩ := a
    obtain ⟨kb, nb, pb, qb, sb, lb⟩ := b
    simp only [aPd_mk, List.map_cons, List.map_nil] at *
    refine PC.enter 125 [.tmp 6] [3, 5] Go.Proofs.Tryz.func140 rfl rfl rfl rfl rfl (by simp) (AWp.of ?_); simp only [go_sem]
    by_cases h16 : k = 16
    · rw [if_pos h16] at hsp
      repeat (first | ((with_reducible refine AWp.ofC ?_ ?_); (focus exact rfl); simp only [go_sem, (eq_true h16), h9, h10, h11, h12, h13, h15]) | ((with_reducible refine an ?_ ?_); focus exact Au))
      refine AWp.mix mixed [0, 1, 2, 3, 4, 5, 6, 7, 8, 9, 10, 11, 12, 13, 14, 15, 16] .done (by kernel_rfl) ?_; simp only [go_sem]
      repeat ((with_reducible refine an ?_ ?_); focus exact As)
      refine GCall.use (ab A) (fun _ => ⟨At, (hca).val.use ⟨rfl, rfl⟩⟩) ?_; simp only [go_sem]
      repeat ((with_reducible refine an ?_ ?_); focus exact As)
      refine GCall.use (ab B) (fun _ => ⟨At, (hcc).val.use ⟨rfl, rfl⟩⟩) ?_; simp only [go_sem]
      repeat ((with_reducible refine an ?_ ?_); focus exact As)
      repeat (first | ((with_reducible refine AWp.ofC ?_ ?_); (focus exact rfl); simp only [go_sem]) | ((with_reducible refine an ?_ ?_); focus exact Au))
      refine ret_eq ?_; simp only [go_sem]
      rw [hsp]
    · rw [if_neg h16] at hsp
      have h17 : k = 17 := by omega
      repeat (first | ((with_reducible refine AWp.ofC ?_ ?_); (focus exact rfl); simp only [go_sem, (eq_true h17), h9, h10, h11, h12, h13, h15, h16]) | ((with_reducible refine an ?_ ?_); focus exact Au))
      refine AWp.mix mixed [0, 1, 2, 3, 4, 5, 6, 7, 8, 9, 10, 11, 12, 13, 14, 15, 16] .done (by kernel_rfl) ?_; simp only [go_sem]
      repeat ((with_reducible refine an ?_ ?_); focus exact As)
      refine GCall.use (ab A) (fun _ => ⟨At, (hca).val.use ⟨rfl, rfl⟩⟩) ?_; simp only [go_sem]
      repeat ((with_reducible refine an ?_ ?_); focus exact As)
      refine GCall.use (ab B) (fun _ => ⟨At, (hcc).val.use ⟨rfl, rfl⟩⟩) ?_; simp only [go_sem]
      repeat ((with_reducible refine an ?_ ?_); focus exact As)
      repeat (first | ((with_reducible refine AWp.ofC ?_ ?_); (focus exact rfl); simp only [go_sem]) | ((with_reducible refine an ?_ ?_); focus exact Au))
      refine ret_eq ?_; simp only [go_sem]
      rw [hsp]
  · omega
end Go.AL
end
section
/- Local predicates: which they are, and their truth in states. No condition. -/
namespace Go.AL
open Go Go.RowKit
set_option maxRecDepth 4000
theorem lcl_mk (pr k n p q : Int) (s : ByteArray) (l : List Pd) : lclB pr (.mk k n p q s l) = if k = 4 ∨ (18 ≤ k ∧ k ≤ 21) then false else if k = 2 ∨ k = 3 then decide (p = pr) else true := rfl
theorem evaluate_local (pr : Int) (t : Pd) : szF t ≤ 1000000 → allB locB t = true → PC Go.Proofs.Tryz.prog 149 [ai pr, aPd t] (ab (allB (lclB pr) t)) := by
  induction t using Pd.ind with
  | _ k n p q s l ih =>
  intro hz ht
  have hsz : szF (.mk k n p q s l) = szL l + 1 := by rw [szF]
  have hll := szL_len l
  obtain ⟨ht1, ht2⟩ := allB_sub ht
  obtain ⟨hpl, _⟩ := loc_len ht1
  have hsp : allB (lclB pr) (.mk k n p q s l) = ((if k = 4 ∨ (18 ≤ k ∧ k ≤ 21) then false else if k = 2 ∨ k = 3 then decide (p = pr) else true) && l.all (allB (lclB pr))) := by rw [allB_mk, lcl_mk]
  have h1 : ∀ x ∈ l, PV Go.Proofs.Tryz.prog (.clo 195 [.rp 1 [ai pr] 0 0]) [aPd x] (ab (!allB (lclB pr) x)) := by
    intro x hx
    have hxi := szL_mem hx
    have hch := ih x hx (by omega) (ht2 x hx)
    generalize allB (lclB pr) x = b at *
    obtain ⟨k2, n2, p2, q2, s2, l2⟩ := x
    refine PC.clo ?_
    simp only [aPd_mk] at *
    refine PC.enter 8 [.tmp 3] [2] Go.Proofs.Tryz.func195 rfl rfl rfl rfl rfl (by simp) (AWp.of ?_); simp only [go_sem]
    repeat (first | ((with_reducible refine AWp.ofC ?_ ?_); (focus exact rfl); simp only [go_sem]) | ((with_reducible refine an ?_ ?_); focus exact Au))
    repeat ((with_reducible refine an ?_ ?_); focus exact As)
    refine (hch).val.use ?_; simp only [go_sem]
    repeat (first | ((with_reducible refine AWp.ofC ?_ ?_); (focus exact rfl); simp only [go_sem]) | ((with_reducible refine an ?_ ?_); focus exact Au))
    refine ret_eq ?_; simp only [go_sem]
  have hc := preds_containsFunc l (by omega) _ rfl (fun x => !allB (lclB pr) x) h1
  have hall : l.all (allB (lclB pr)) = !l.any fun x => !allB (lclB pr) x := by rw [List.all_eq_not_any_not]
  rw [hall] at hsp
  clear h1 ih
  by_cases c1 : k = 4 ∨ k = 18 ∨ k = 19 ∨ k = 20 ∨ k = 21
  · rw [if_pos (by omega), Bool.false_and] at hsp
    rw [hsp]
    clear hsp hall hc
    simp only [aPd_mk] at *
    rcases c1 with rfl | rfl | rfl | rfl | rfl
    all_goals refine PC.enter 25 [.tmp 4] [2, 3] Go.Proofs.Tryz.func149 rfl rfl rfl rfl rfl (by simp) (AWp.of ?_); simp only [go_sem]
    all_goals repeat (first | ((with_reducible refine AWp.ofC ?_ ?_); (focus exact rfl); simp only [go_sem, Int.reduceEq]) | ((with_reducible refine an ?_ ?_); focus exact Au))
    all_goals refine ret_eq ?_; simp only [go_sem]
  rw [if_neg (by omega)] at hsp
  by_cases c2 : k = 2 ∨ k = 3
  · have hl0 : l = [] := by
      have : partsF k = 0 := by rcases c2 with rfl | rfl <;> rfl
      exact len0 (by omega)
    subst hl0
    rw [if_pos c2] at hsp
    simp only [List.any_nil, Bool.not_false, Bool.and_true] at hsp
    rw [hsp]
    clear hsp hall hc
    simp only [aPd_mk] at *
    rcases c2 with rfl | rfl
    all_goals refine PC.enter 25 [.tmp 4] [2, 3] Go.Proofs.Tryz.func149 rfl rfl rfl rfl rfl (by simp) (AWp.of ?_); simp only [go_sem]
    all_goals repeat (first | ((with_reducible refine AWp.ofC ?_ ?_); (focus exact rfl); simp only [go_sem, Int.reduceEq]) | ((with_reducible refine an ?_ ?_); focus exact Au))
    all_goals refine ret_eq ?_; simp only [go_sem]
  rw [if_neg c2, Bool.true_and] at hsp
  rw [hsp]
  generalize (l.any fun x => !allB (lclB pr) x) = b at *
  clear hsp hall
  have a4 : ¬ k = 4 := by omega
  have a18 : ¬ k = 18 := by omega
  have a19 : ¬ k = 19 := by omega
  have a20 : ¬ k = 20 := by omega
  have a21 : ¬ k = 21 := by omega
  have a2 : ¬ k = 2 := by omega
  have a3 : ¬ k = 3 := by omega
  simp only [aPd_mk] at *
  refine PC.enter 25 [.tmp 4] [2, 3] Go.Proofs.Tryz.func149 rfl rfl rfl rfl rfl (by simp) (AWp.of ?_); simp only [go_sem]
  repeat (first | ((with_reducible refine AWp.ofC ?_ ?_); (focus exact rfl); simp only [go_sem, a2, a3, a4, a18, a19, a20, a21]) | ((with_reducible refine an ?_ ?_); focus exact Au))
  repeat ((with_reducible refine an ?_ ?_); focus exact As)
  refine (hc).val.use ?_; simp only [go_sem]
  repeat (first | ((with_reducible refine AWp.ofC ?_ ?_); (focus exact rfl); simp only [go_sem]) | ((with_reducible refine an ?_ ?_); focus exact Au))
  refine ret_eq ?_; simp only [go_sem]
theorem ref29_IsLocal (pr : Int) (t : Pd) : szF t ≤ 1000000 → allB locB t = true → PC Go.Proofs.Tryz.prog 65 [aPd t, ai pr] (ab (allB (lclB pr) t)) := by
  induction t using Pd.ind with
  | _ k n p q s l ih =>
  intro hz ht
  have hsz : szF (.mk k n p q s l) = szL l + 1 := by rw [szF]
  have hll := szL_len l
  obtain ⟨ht1, ht2⟩ := allB_sub ht
  obtain ⟨hpl, _⟩ := loc_len ht1
  have hsp : allB (lclB pr) (.mk k n p q s l) = ((if k = 4 ∨ (18 ≤ k ∧ k ≤ 21) then false else if k = 2 ∨ k = 3 then decide (p = pr) else true) && l.all (allB (lclB pr))) := by rw [allB_mk, lcl_mk]
  by_cases c1 : k = 4 ∨ k = 18 ∨ k = 19 ∨ k = 20 ∨ k = 21
  · rw [if_pos (by omega), Bool.false_and] at hsp
    rw [hsp]
    clear hsp ih
    simp only [aPd_mk] at *
    rcases c1 with rfl | rfl | rfl | rfl | rfl
    all_goals refine PC.enter 36 [.tmp 4] [2] Go.Proofs.Tryz.func65 rfl rfl rfl rfl rfl (by simp) (AWp.of ?_); simp only [go_sem]
    all_goals repeat (first | ((with_reducible refine AWp.ofC ?_ ?_); (focus exact rfl); simp only [go_sem, Int.reduceEq]) | ((with_reducible refine an ?_ ?_); focus exact Au))
    all_goals refine ret_eq ?_; simp only [go_sem]
  rw [if_neg (by omega)] at hsp
  by_cases c2 : k = 2 ∨ k = 3
  · have hl0 : l = [] := by
      have : partsF k = 0 := by rcases c2 with rfl | rfl <;> rfl
      exact len0 (by omega)
    subst hl0
    rw [if_pos c2] at hsp
    simp only [List.all_nil, Bool.and_true] at hsp
    rw [hsp]
    clear hsp ih
    simp only [aPd_mk] at *
    rcases c2 with rfl | rfl
    all_goals refine PC.enter 36 [.tmp 4] [2] Go.Proofs.Tryz.func65 rfl rfl rfl rfl rfl (by simp) (AWp.of ?_); simp only [go_sem]
    all_goals repeat (first | ((with_reducible refine AWp.ofC ?_ ?_); (focus exact rfl); simp only [go_sem, Int.reduceEq]) | ((with_reducible refine an ?_ ?_); focus exact Au))
    all_goals refine ret_eq ?_; simp only [go_sem]
  rw [if_neg c2, Bool.true_and] at hsp
  generalize allB (lclB pr) (.mk k n p q s l) = B at *
  have a4 : ¬ k = 4 := by omega
  have a18 : ¬ k = 18 := by omega
  have a19 : ¬ k = 19 := by omega
  have a20 : ¬ k = 20 := by omega
  have a21 : ¬ k = 21 := by omega
  have a2 : ¬ k = 2 := by omega
  have a3 : ¬ k = 3 := by omega
  refine PC.enter 36 [.tmp 4] [2] Go.Proofs.Tryz.func65 rfl rfl rfl rfl rfl (by simp) (AWp.of ?_); simp only [go_sem]
  repeat (first | ((with_reducible refine AWp.ofC ?_ ?_); (focus exact rfl); simp only [go_sem, a2, a3, a4, a18, a19, a20, a21]) | ((with_reducible refine an ?_ ?_); focus exact Au))
  refine AWp.block (AWp.count 5 l.length [] [1, 2] (fun i vs L => L = [] ∧ ∀ j (hj : j < l.length), j < i → allB (lclB pr) l[j] = true) rfl rfl ⟨rfl, by omega⟩ ?_)
  rintro i vs L hi - ⟨rfl, hI⟩
  simp only [go_sem]
  repeat (first | ((with_reducible refine AWp.ofC ?_ ?_); (focus exact rfl); simp only [go_sem]) | ((with_reducible refine an ?_ ?_); focus exact Au))
  refine ⟨fun h4 => ?_, fun h4 => ?_⟩
  · have hil : i < l.length := by omega
    have hgi := getD_map (f := aPd) hil
    have hzi := szL_mem (List.getElem_mem hil)
    have hch := ih l[i] (List.getElem_mem hil) (by omega) (ht2 _ (List.getElem_mem hil))
    have hnx := all_next hI hil
    have hno := all_not (f := allB (lclB pr)) hil
    generalize l[i] = x at *
    generalize allB (lclB pr) x = bx at *
    obtain ⟨k2, n2, p2, q2, s2, l2⟩ := x
    simp only [aPd_mk] at hgi hch
    repeat (first | ((with_reducible refine AWp.ofC ?_ ?_); (focus exact rfl); simp only [go_sem, hgi]) | ((with_reducible refine an ?_ ?_); focus exact Au))
    repeat ((with_reducible refine an ?_ ?_); focus exact As)
    refine (hch).val.use ?_; simp only [go_sem]
    repeat (first | ((with_reducible refine AWp.ofC ?_ ?_); (focus exact rfl); simp only [go_sem]) | ((with_reducible refine an ?_ ?_); focus exact Au))
    refine ⟨fun h5 => ?_, fun h5 => ?_⟩
    · repeat (first | ((with_reducible refine AWp.ofC ?_ ?_); (focus exact rfl); simp only [go_sem]) | ((with_reducible refine an ?_ ?_); focus exact Au))
      refine ret_eq ?_; simp only [go_sem]
      rw [hsp, hno h5]
    · repeat (first | ((with_reducible refine AWp.ofC ?_ ?_); (focus exact rfl); simp only [go_sem]) | ((with_reducible refine an ?_ ?_); focus exact Au))
      exact ⟨_, List.Sublist.refl _, rfl, hnx h5⟩
  · repeat (first | ((with_reducible refine AWp.ofC ?_ ?_); (focus exact rfl); simp only [go_sem]) | ((with_reducible refine an ?_ ?_); focus exact Au))
    refine ret_eq ?_; simp only [go_sem]
    rw [hsp, all_of hI (by omega)]
/-! ### The faults of a local predicate -/
theorem evaluate_check (ps : List Pr) (hs : Sm ps) (pr k : Int) (t : Pd) (hz : szF t ≤ 1000000) : PC Go.Proofs.Tryz.prog 87 [aTr ps, ai pr, ai k, aPd t] (ai (lclF ps pr k t)) := by
  have h1 := predtype_Check ps hs t hz
  have h2 := fun a b => evaluate_typed t hz a b 2
  have h3 := fun a => evaluate_local pr t hz a
  have hl := hs.procs
  have hel := fun x hx => hs.evs x hx
  have hck : checkF ps t = 0 → formedB t = true ∧ typedB t = true ∧ allB locB t = true := fun h => by
    obtain ⟨_, f2, f3, _⟩ := checkF_zero h
    unfold okT at f3
    simp only [Bool.and_eq_true] at f3
    exact ⟨f2, f3.2, f3.1.1⟩
  have hn1 : checkF ps t = 0 → 1 ≤ ps.length := fun h => (valid_len (checkF_zero h).1).1
  have hE : lclF ps pr k t = if checkF ps t ≠ 0 then checkF ps t else if ¬ (0 ≤ pr ∧ pr < ps.length ∧ 0 ≤ k ∧ k ≤ evN ps pr) then 2 else if t.kind ≤ 8 then 14 else if allB (lclB pr) t = false then 15 else 0 := rfl
  have hr : resF t.kind = 2 ↔ ¬ t.kind ≤ 8 := by unfold resF; split <;> omega
  generalize lclF ps pr k t = E at *
  generalize checkF ps t = e at *
  generalize formedB t = f at *
  generalize typedB t = y at *
  generalize allB locB t = lb at *
  generalize allB (lclB pr) t = a at *
  generalize t.kind = kd at *
  obtain ⟨k0, n, p, q, s, l⟩ := t
  simp only [aPd_mk] at *
  by_cases he : e = 0
  · subst he
    rw [if_neg (by decide)] at hE
    obtain ⟨c1, c2, c3⟩ := hck rfl
    have hn1 := hn1 rfl
    have h2 := h2 c1 c2
    have h3 := h3 c3
    by_cases hp : 0 ≤ pr ∧ pr < ps.length
    · obtain ⟨i, rfl⟩ : ∃ i : Nat, pr = i := ⟨pr.toNat, by omega⟩
      have hpi : i < ps.length := by omega
      have hgp := getD_map (f := aPr) hpi
      rw [evN_get hpi] at hE
      have n1 : ¬ (i : Int) < 0 := by omega
      have n2 : ¬ (ps.length : Int) ≤ i := by omega
      by_cases hk : 0 ≤ k ∧ k ≤ ps[i].evs.length
      · rw [if_neg (by omega)] at hE
        have n3 : ¬ k < 0 := by omega
        have n4 : ¬ (ps[i].evs.length : Int) < k := by omega
        by_cases hk8 : kd ≤ 8
        · rw [if_pos hk8] at hE
          rw [if_neg (fun h => hr.1 h hk8)] at h2
          refine PC.enter 50 [.tmp 8] [4, 7] Go.Proofs.Tryz.func87 rfl rfl rfl rfl rfl (by simp) (AWp.of ?_); simp only [go_sem]
          repeat (first | ((with_reducible refine AWp.ofC ?_ ?_); (focus exact rfl); simp only [go_sem]) | ((with_reducible refine an ?_ ?_); focus exact Au))
          repeat ((with_reducible refine an ?_ ?_); focus exact As)
          refine (h1).val.use ?_; simp only [go_sem]
          repeat (first | ((with_reducible refine AWp.ofC ?_ ?_); (focus exact rfl); simp only [go_sem, n1, n2, n3, n4, hgp]) | ((with_reducible refine an ?_ ?_); focus exact Au))
          repeat ((with_reducible refine an ?_ ?_); focus exact As)
          refine (h2).val.use ?_; simp only [go_sem]
          repeat (first | ((with_reducible refine AWp.ofC ?_ ?_); (focus exact rfl); simp only [go_sem, Int.reduceEq]) | ((with_reducible refine an ?_ ?_); focus exact Au))
          refine ret_eq ?_; simp only [go_sem]
          rw [hE]
        rw [if_neg hk8] at hE
        rw [if_pos (hr.2 hk8)] at h2
        refine PC.enter 50 [.tmp 8] [4, 7] Go.Proofs.Tryz.func87 rfl rfl rfl rfl rfl (by simp) (AWp.of ?_); simp only [go_sem]
        repeat (first | ((with_reducible refine AWp.ofC ?_ ?_); (focus exact rfl); simp only [go_sem]) | ((with_reducible refine an ?_ ?_); focus exact Au))
        repeat ((with_reducible refine an ?_ ?_); focus exact As)
        refine (h1).val.use ?_; simp only [go_sem]
        repeat (first | ((with_reducible refine AWp.ofC ?_ ?_); (focus exact rfl); simp only [go_sem, n1, n2, n3, n4, hgp]) | ((with_reducible refine an ?_ ?_); focus exact Au))
        repeat ((with_reducible refine an ?_ ?_); focus exact As)
        refine (h2).val.use ?_; simp only [go_sem]
        repeat (first | ((with_reducible refine AWp.ofC ?_ ?_); (focus exact rfl); simp only [go_sem]) | ((with_reducible refine an ?_ ?_); focus exact Au))
        repeat ((with_reducible refine an ?_ ?_); focus exact As)
        refine (h3).val.use ?_; simp only [go_sem]
        repeat (first | ((with_reducible refine AWp.ofC ?_ ?_); (focus exact rfl); simp only [go_sem]) | ((with_reducible refine an ?_ ?_); focus exact Au))
        refine ⟨fun h5 => ?_, fun h5 => ?_⟩
        · rw [if_pos h5] at hE
          repeat (first | ((with_reducible refine AWp.ofC ?_ ?_); (focus exact rfl); simp only [go_sem]) | ((with_reducible refine an ?_ ?_); focus exact Au))
          refine ret_eq ?_; simp only [go_sem]
          rw [hE]
        · rw [if_neg (by rw [h5]; decide)] at hE
          repeat (first | ((with_reducible refine AWp.ofC ?_ ?_); (focus exact rfl); simp only [go_sem]) | ((with_reducible refine an ?_ ?_); focus exact Au))
          refine ret_eq ?_; simp only [go_sem]
          rw [hE]
      · rw [if_pos (by omega)] at hE
        refine PC.enter 50 [.tmp 8] [4, 7] Go.Proofs.Tryz.func87 rfl rfl rfl rfl rfl (by simp) (AWp.of ?_); simp only [go_sem]
        repeat (first | ((with_reducible refine AWp.ofC ?_ ?_); (focus exact rfl); simp only [go_sem]) | ((with_reducible refine an ?_ ?_); focus exact Au))
        repeat ((with_reducible refine an ?_ ?_); focus exact As)
        refine (h1).val.use ?_; simp only [go_sem]
        repeat (first | ((with_reducible refine AWp.ofC ?_ ?_); (focus exact rfl); simp only [go_sem, n1, n2, hgp]) | ((with_reducible refine an ?_ ?_); focus exact Au))
        refine ⟨fun h5 => ?_, fun h5 => ?_⟩
        · repeat (first | ((with_reducible refine AWp.ofC ?_ ?_); (focus exact rfl); simp only [go_sem]) | ((with_reducible refine an ?_ ?_); focus exact Au))
          refine ret_eq ?_; simp only [go_sem]
          rw [hE]
        · intros; omega
    · rw [if_pos (by omega)] at hE
      by_cases hp0 : pr < 0
      · have hgx : (ps.map aPr).getD pr.toNat .any = aPr (ps[0]'(by omega)) := by
          rw [show pr.toNat = 0 by omega]; exact getD_map (by omega)
        refine PC.enter 50 [.tmp 8] [4, 7] Go.Proofs.Tryz.func87 rfl rfl rfl rfl rfl (by simp) (AWp.of ?_); simp only [go_sem]
        repeat (first | ((with_reducible refine AWp.ofC ?_ ?_); (focus exact rfl); simp only [go_sem]) | ((with_reducible refine an ?_ ?_); focus exact Au))
        repeat ((with_reducible refine an ?_ ?_); focus exact As)
        refine (h1).val.use ?_; simp only [go_sem]
        repeat (first | ((with_reducible refine AWp.ofC ?_ ?_); (focus exact rfl); simp only [go_sem, hp0, hgx]) | ((with_reducible refine an ?_ ?_); focus exact Au))
        refine ret_eq ?_; simp only [go_sem]
        rw [hE]
      · have hp1 : (ps.length : Int) ≤ pr := by omega
        have hgx : (ps.map aPr).getD pr.toNat .any = .any := by
          rw [List.getD_eq_getElem?_getD, List.getElem?_eq_none (by rw [List.length_map]; omega)]; rfl
        refine PC.enter 50 [.tmp 8] [4, 7] Go.Proofs.Tryz.func87 rfl rfl rfl rfl rfl (by simp) (AWp.of ?_); simp only [go_sem]
        repeat (first | ((with_reducible refine AWp.ofC ?_ ?_); (focus exact rfl); simp only [go_sem]) | ((with_reducible refine an ?_ ?_); focus exact Au))
        repeat ((with_reducible refine an ?_ ?_); focus exact As)
        refine (h1).val.use ?_; simp only [go_sem]
        repeat (first | ((with_reducible refine AWp.ofC ?_ ?_); (focus exact rfl); simp only [go_sem, hp0, hp1, hgx, List.getD_nil]) | ((with_reducible refine an ?_ ?_); focus exact Au))
        refine ret_eq ?_; simp only [go_sem]
        rw [hE]
  · rw [if_pos he] at hE
    refine PC.enter 50 [.tmp 8] [4, 7] Go.Proofs.Tryz.func87 rfl rfl rfl rfl rfl (by simp) (AWp.of ?_); simp only [go_sem]
    repeat (first | ((with_reducible refine AWp.ofC ?_ ?_); (focus exact rfl); simp only [go_sem]) | ((with_reducible refine an ?_ ?_); focus exact Au))
    repeat ((with_reducible refine an ?_ ?_); focus exact As)
    refine (h1).val.use ?_; simp only [go_sem]
    repeat (first | ((with_reducible refine AWp.ofC ?_ ?_); (focus exact rfl); simp only [go_sem, he]) | ((with_reducible refine an ?_ ?_); focus exact Au))
    refine ret_eq ?_; simp only [go_sem]
    rw [hE]
/-! ### The reference -/
theorem ref28_Type (t : Pd) (hz : szF t ≤ 1000000) (h1 : formedB t = true) (h2 : typedB t = true) : PC Go.Proofs.Tryz.prog 125 [aPd t] (.tup [ai (resF t.kind), ai 0]) := by
  have g1 := ref28_Formed t hz
  have hl : allB locB t = true := by unfold formedB at h1; simp only [Bool.and_eq_true] at h1; exact h1.2
  have g2 := ref28_typed t hz hl
  rw [show allB typB t = true from h2] at g2
  rw [h1] at g1
  obtain ⟨k, n, p, q, s, l⟩ := t
  have g3 := ref28_kind k n p q s l
  simp only [aPd_mk, Pd.kind] at *
  generalize resF k = r at *
  refine PC.enter 12 [.tmp 2, .tmp 3] [1] Go.Proofs.Tryz.func125 rfl rfl rfl rfl rfl (by simp) (AWp.of ?_); simp only [go_sem]
  repeat (first | ((with_reducible refine AWp.ofC ?_ ?_); (focus exact rfl); simp only [go_sem]) | ((with_reducible refine an ?_ ?_); focus exact Au))
  repeat ((with_reducible refine an ?_ ?_); focus exact As)
  refine (g1).val.use ?_; simp only [go_sem]
  repeat (first | ((with_reducible refine AWp.ofC ?_ ?_); (focus exact rfl); simp only [go_sem]) | ((with_reducible refine an ?_ ?_); focus exact Au))
  repeat ((with_reducible refine an ?_ ?_); focus exact As)
  refine (g2).val.use ?_; simp only [go_sem]
  repeat (first | ((with_reducible refine AWp.ofC ?_ ?_); (focus exact rfl); simp only [go_sem]) | ((with_reducible refine an ?_ ?_); focus exact Au))
  repeat ((with_reducible refine an ?_ ?_); focus exact As)
  refine (g3).val.use ?_; simp only [go_sem]
  repeat (first | ((with_reducible refine AWp.ofC ?_ ?_); (focus exact rfl); simp only [go_sem]) | ((with_reducible refine an ?_ ?_); focus exact Au))
  refine ret_eq ?_; simp only [go_sem]
noncomputable def treeF (ps : List Pr) (t : Pd) (w : Int) : Int := if checkF ps t ≠ 0 then checkF ps t else if resF t.kind ≠ w then 14 else 0
theorem ref29_Tree (ps : List Pr) (hs : Sm ps) (t : Pd) (hz : szF t ≤ 1000000) (w : Int) : PC Go.Proofs.Tryz.prog 64 [aTr ps, aPd t, ai w] (ai (treeF ps t w)) := by
  have h1 := ref28_Check ps hs t hz
  have h2 := ref28_Type t hz
  have hck : checkF ps t = 0 → formedB t = true ∧ typedB t = true := fun h => by
    obtain ⟨_, f2, f3, _⟩ := checkF_zero h
    unfold okT at f3
    simp only [Bool.and_eq_true] at f3
    exact ⟨f2, f3.2⟩
  have hE : treeF ps t w = if checkF ps t ≠ 0 then checkF ps t else if resF t.kind ≠ w then 14 else 0 := rfl
  generalize treeF ps t w = E at *
  generalize checkF ps t = e at *
  generalize resF t.kind = r at *
  generalize formedB t = f at *
  generalize typedB t = y at *
  obtain ⟨k, n, p, q, s, l⟩ := t
  simp only [aPd_mk] at *
  by_cases he : e = 0
  · subst he
    rw [if_neg (by decide)] at hE
    have h2 := h2 (hck rfl).1 (hck rfl).2
    refine PC.enter 24 [.tmp 6] [3, 4] Go.Proofs.Tryz.func64 rfl rfl rfl rfl rfl (by simp) (AWp.of ?_); simp only [go_sem]
    repeat (first | ((with_reducible refine AWp.ofC ?_ ?_); (focus exact rfl); simp only [go_sem]) | ((with_reducible refine an ?_ ?_); focus exact Au))
    repeat ((with_reducible refine an ?_ ?_); focus exact As)
    refine (h1).val.use ?_; simp only [go_sem]
    repeat (first | ((with_reducible refine AWp.ofC ?_ ?_); (focus exact rfl); simp only [go_sem]) | ((with_reducible refine an ?_ ?_); focus exact Au))
    repeat ((with_reducible refine an ?_ ?_); focus exact As)
    refine (h2).val.use ?_; simp only [go_sem]
    repeat (first | ((with_reducible refine AWp.ofC ?_ ?_); (focus exact rfl); simp only [go_sem]) | ((with_reducible refine an ?_ ?_); focus exact Au))
    refine ⟨fun h3 => ?_, fun h3 => ?_⟩
    · rw [if_pos h3] at hE
      repeat (first | ((with_reducible refine AWp.ofC ?_ ?_); (focus exact rfl); simp only [go_sem]) | ((with_reducible refine an ?_ ?_); focus exact Au))
      refine ret_eq ?_; simp only [go_sem]
      rw [hE]
    · rw [if_neg (by simpa using h3)] at hE
      repeat (first | ((with_reducible refine AWp.ofC ?_ ?_); (focus exact rfl); simp only [go_sem]) | ((with_reducible refine an ?_ ?_); focus exact Au))
      refine ret_eq ?_; simp only [go_sem]
      rw [hE]
  · rw [if_pos he] at hE
    refine PC.enter 24 [.tmp 6] [3, 4] Go.Proofs.Tryz.func64 rfl rfl rfl rfl rfl (by simp) (AWp.of ?_); simp only [go_sem]
    repeat (first | ((with_reducible refine AWp.ofC ?_ ?_); (focus exact rfl); simp only [go_sem]) | ((with_reducible refine an ?_ ?_); focus exact Au))
    repeat ((with_reducible refine an ?_ ?_); focus exact As)
    refine (h1).val.use ?_; simp only [go_sem]
    repeat (first | ((with_reducible refine AWp.ofC ?_ ?_); (focus exact rfl); simp only [go_sem, he]) | ((with_reducible refine an ?_ ?_); focus exact Au))
    refine ret_eq ?_; simp only [go_sem]
    rw [hE]
theorem ref29_LocalFault (ps : List Pr) (hs : Sm ps) (pr k : Int) (t : Pd) (hz : szF t ≤ 1000000) : PC Go.Proofs.Tryz.prog 15 [aTr ps, ai pr, ai k, aPd t] (ai (lclF ps pr k t)) := by
  have h1 := ref28_Check ps hs t hz
  have h2 := ref29_Tree ps hs t hz 2
  have h2e : treeF ps t 2 = if checkF ps t ≠ 0 then checkF ps t else if resF t.kind ≠ 2 then 14 else 0 := rfl
  have h3 := fun a => ref29_IsLocal pr t hz a
  have hl := hs.procs
  have hel := fun x hx => hs.evs x hx
  have hck : checkF ps t = 0 → formedB t = true ∧ typedB t = true ∧ allB locB t = true := fun h => by
    obtain ⟨_, f2, f3, _⟩ := checkF_zero h
    unfold okT at f3
    simp only [Bool.and_eq_true] at f3
    exact ⟨f2, f3.2, f3.1.1⟩
  have hn1 : checkF ps t = 0 → 1 ≤ ps.length := fun h => (valid_len (checkF_zero h).1).1
  have hE : lclF ps pr k t = if checkF ps t ≠ 0 then checkF ps t else if ¬ (0 ≤ pr ∧ pr < ps.length ∧ 0 ≤ k ∧ k ≤ evN ps pr) then 2 else if t.kind ≤ 8 then 14 else if allB (lclB pr) t = false then 15 else 0 := rfl
  have hr : resF t.kind = 2 ↔ ¬ t.kind ≤ 8 := by unfold resF; split <;> omega
  generalize lclF ps pr k t = E at *
  generalize treeF ps t 2 = tf at *
  generalize checkF ps t = e at *
  generalize formedB t = f at *
  generalize typedB t = y at *
  generalize allB locB t = lb at *
  generalize allB (lclB pr) t = a at *
  generalize t.kind = kd at *
  obtain ⟨k0, n, p, q, s, l⟩ := t
  simp only [aPd_mk] at *
  by_cases he : e = 0
  · subst he
    rw [if_neg (by decide)] at hE
    obtain ⟨c1, c2, c3⟩ := hck rfl
    have hn1 := hn1 rfl
    rw [if_neg (by decide)] at h2e
    have h3 := h3 c3
    by_cases hp : 0 ≤ pr ∧ pr < ps.length
    · obtain ⟨i, rfl⟩ : ∃ i : Nat, pr = i := ⟨pr.toNat, by omega⟩
      have hpi : i < ps.length := by omega
      have hgp := getD_map (f := aPr) hpi
      rw [evN_get hpi] at hE
      have n1 : ¬ (i : Int) < 0 := by omega
      have n2 : ¬ (ps.length : Int) ≤ i := by omega
      by_cases hk : 0 ≤ k ∧ k ≤ ps[i].evs.length
      · rw [if_neg (by omega)] at hE
        have n3 : ¬ k < 0 := by omega
        have n4 : ¬ (ps[i].evs.length : Int) < k := by omega
        by_cases hk8 : kd ≤ 8
        · rw [if_pos hk8] at hE
          rw [if_pos (fun h => hr.1 h hk8)] at h2e
          rw [h2e] at h2
          refine PC.enter 51 [.tmp 8] [4, 7] Go.Proofs.Tryz.func15 rfl rfl rfl rfl rfl (by simp) (AWp.of ?_); simp only [go_sem]
          repeat (first | ((with_reducible refine AWp.ofC ?_ ?_); (focus exact rfl); simp only [go_sem]) | ((with_reducible refine an ?_ ?_); focus exact Au))
          repeat ((with_reducible refine an ?_ ?_); focus exact As)
          refine (h1).val.use ?_; simp only [go_sem]
          repeat (first | ((with_reducible refine AWp.ofC ?_ ?_); (focus exact rfl); simp only [go_sem, n1, n2, n3, n4, hgp]) | ((with_reducible refine an ?_ ?_); focus exact Au))
          repeat ((with_reducible refine an ?_ ?_); focus exact As)
          refine (h2).val.use ?_; simp only [go_sem]
          repeat (first | ((with_reducible refine AWp.ofC ?_ ?_); (focus exact rfl); simp only [go_sem, Int.reduceEq]) | ((with_reducible refine an ?_ ?_); focus exact Au))
          refine ret_eq ?_; simp only [go_sem]
          rw [hE]
        rw [if_neg hk8] at hE
        rw [if_neg (by simpa using hr.2 hk8)] at h2e
        rw [h2e] at h2
        refine PC.enter 51 [.tmp 8] [4, 7] Go.Proofs.Tryz.func15 rfl rfl rfl rfl rfl (by simp) (AWp.of ?_); simp only [go_sem]
        repeat (first | ((with_reducible refine AWp.ofC ?_ ?_); (focus exact rfl); simp only [go_sem]) | ((with_reducible refine an ?_ ?_); focus exact Au))
        repeat ((with_reducible refine an ?_ ?_); focus exact As)
        refine (h1).val.use ?_; simp only [go_sem]
        repeat (first | ((with_reducible refine AWp.ofC ?_ ?_); (focus exact rfl); simp only [go_sem, n1, n2, n3, n4, hgp]) | ((with_reducible refine an ?_ ?_); focus exact Au))
        repeat ((with_reducible refine an ?_ ?_); focus exact As)
        refine (h2).val.use ?_; simp only [go_sem]
        repeat (first | ((with_reducible refine AWp.ofC ?_ ?_); (focus exact rfl); simp only [go_sem]) | ((with_reducible refine an ?_ ?_); focus exact Au))
        repeat ((with_reducible refine an ?_ ?_); focus exact As)
        refine (h3).val.use ?_; simp only [go_sem]
        repeat (first | ((with_reducible refine AWp.ofC ?_ ?_); (focus exact rfl); simp only [go_sem]) | ((with_reducible refine an ?_ ?_); focus exact Au))
        refine ⟨fun h5 => ?_, fun h5 => ?_⟩
        · rw [if_pos h5] at hE
          repeat (first | ((with_reducible refine AWp.ofC ?_ ?_); (focus exact rfl); simp only [go_sem]) | ((with_reducible refine an ?_ ?_); focus exact Au))
          refine ret_eq ?_; simp only [go_sem]
          rw [hE]
        · rw [if_neg (by rw [h5]; decide)] at hE
          repeat (first | ((with_reducible refine AWp.ofC ?_ ?_); (focus exact rfl); simp only [go_sem]) | ((with_reducible refine an ?_ ?_); focus exact Au))
          refine ret_eq ?_; simp only [go_sem]
          rw [hE]
      · rw [if_pos (by omega)] at hE
        refine PC.enter 51 [.tmp 8] [4, 7] Go.Proofs.Tryz.func15 rfl rfl rfl rfl rfl (by simp) (AWp.of ?_); simp only [go_sem]
        repeat (first | ((with_reducible refine AWp.ofC ?_ ?_); (focus exact rfl); simp only [go_sem]) | ((with_reducible refine an ?_ ?_); focus exact Au))
        repeat ((with_reducible refine an ?_ ?_); focus exact As)
        refine (h1).val.use ?_; simp only [go_sem]
        repeat (first | ((with_reducible refine AWp.ofC ?_ ?_); (focus exact rfl); simp only [go_sem, n1, n2, hgp]) | ((with_reducible refine an ?_ ?_); focus exact Au))
        refine ⟨fun h5 => ?_, fun h5 => ?_⟩
        · repeat (first | ((with_reducible refine AWp.ofC ?_ ?_); (focus exact rfl); simp only [go_sem]) | ((with_reducible refine an ?_ ?_); focus exact Au))
          refine ret_eq ?_; simp only [go_sem]
          rw [hE]
        · intros; omega
    · rw [if_pos (by omega)] at hE
      by_cases hp0 : pr < 0
      · have hgx : (ps.map aPr).getD pr.toNat .any = aPr (ps[0]'(by omega)) := by
          rw [show pr.toNat = 0 by omega]; exact getD_map (by omega)
        refine PC.enter 51 [.tmp 8] [4, 7] Go.Proofs.Tryz.func15 rfl rfl rfl rfl rfl (by simp) (AWp.of ?_); simp only [go_sem]
        repeat (first | ((with_reducible refine AWp.ofC ?_ ?_); (focus exact rfl); simp only [go_sem]) | ((with_reducible refine an ?_ ?_); focus exact Au))
        repeat ((with_reducible refine an ?_ ?_); focus exact As)
        refine (h1).val.use ?_; simp only [go_sem]
        repeat (first | ((with_reducible refine AWp.ofC ?_ ?_); (focus exact rfl); simp only [go_sem, hp0, hgx]) | ((with_reducible refine an ?_ ?_); focus exact Au))
        refine ret_eq ?_; simp only [go_sem]
        rw [hE]
      · have hp1 : (ps.length : Int) ≤ pr := by omega
        have hgx : (ps.map aPr).getD pr.toNat .any = .any := by
          rw [List.getD_eq_getElem?_getD, List.getElem?_eq_none (by rw [List.length_map]; omega)]; rfl
        refine PC.enter 51 [.tmp 8] [4, 7] Go.Proofs.Tryz.func15 rfl rfl rfl rfl rfl (by simp) (AWp.of ?_); simp only [go_sem]
        repeat (first | ((with_reducible refine AWp.ofC ?_ ?_); (focus exact rfl); simp only [go_sem]) | ((with_reducible refine an ?_ ?_); focus exact Au))
        repeat ((with_reducible refine an ?_ ?_); focus exact As)
        refine (h1).val.use ?_; simp only [go_sem]
        repeat (first | ((with_reducible refine AWp.ofC ?_ ?_); (focus exact rfl); simp only [go_sem, hp0, hp1, hgx, List.getD_nil]) | ((with_reducible refine an ?_ ?_); focus exact Au))
        refine ret_eq ?_; simp only [go_sem]
        rw [hE]
  · rw [if_pos he] at hE
    refine PC.enter 51 [.tmp 8] [4, 7] Go.Proofs.Tryz.func15 rfl rfl rfl rfl rfl (by simp) (AWp.of ?_); simp only [go_sem]
    repeat (first | ((with_reducible refine AWp.ofC ?_ ?_); (focus exact rfl); simp only [go_sem]) | ((with_reducible refine an ?_ ?_); focus exact Au))
    repeat ((with_reducible refine an ?_ ?_); focus exact As)
    refine (h1).val.use ?_; simp only [go_sem]
    repeat (first | ((with_reducible refine AWp.ofC ?_ ?_); (focus exact rfl); simp only [go_sem, he]) | ((with_reducible refine an ?_ ?_); focus exact Au))
    refine ret_eq ?_; simp only [go_sem]
    rw [hE]
end Go.AL
end
