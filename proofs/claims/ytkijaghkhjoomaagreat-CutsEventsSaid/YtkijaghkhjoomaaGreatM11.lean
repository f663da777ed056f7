/- Texts of this claim's proof: WNd2, WNh, WNi, WNj, WNk. No condition. -/
import Derived.Test.YtkijaghkhjoomaaGreatM10
import Derived.Test.YtkijaghkhjoomaaGreatM8
section
/- Meets; equal or smaller cuts in lists. No condition. -/
namespace Go.AL
open Go Go.RowKit
set_option maxRecDepth 4000
theorem ref15_Leq (a b : List Int) (ha : a.length ≤ 1000000) (hl : a.length = b.length) : PC Go.Proofs.Tryz.prog 33 [aInts a, aInts b] (ab (leqF a b)) := by
  refine PC.enter 21 [.tmp 4] [] Go.Proofs.Tryz.func33 rfl rfl rfl rfl rfl (by simp) (AWp.of ?_); simp only [go_sem]
  repeat (first | ((with_reducible refine AWp.ofC ?_ ?_); (focus exact rfl); simp only [go_sem]) | ((with_reducible refine an ?_ ?_); focus exact Au))
  refine AWp.block (AWp.count 5 a.length [] [0, 1] (fun k vs L => L = [] ∧ ∀ p : Nat, p < k → cAt a p ≤ cAt b p) rfl rfl ⟨rfl, fun p h => by omega⟩ ?_)
  rintro k vs L hk - ⟨rfl, hI⟩
  simp only [go_sem]
  repeat (first | ((with_reducible refine AWp.ofC ?_ ?_); (focus exact rfl); simp only [go_sem]) | ((with_reducible refine an ?_ ?_); focus exact Au))
  refine ⟨fun h3 => ?_, fun h3 => ?_⟩
  · have hka : k < a.length := by omega
    have hkb : k < b.length := by omega
    have ga := getD_map (f := ai) hka
    have gb := getD_map (f := ai) hkb
    have ea := cAt_nat hka
    have eb := cAt_nat hkb
    refine AWp.seq (AWp.block (AWp.seq ?_))
    refine AWp.read mixed [0, 1, 2, 3, 4, 5, 6, 7, 8] (by kernel_rfl) ?_; simp only [go_sem, ga, gb]
    repeat ((with_reducible refine an ?_ ?_); focus exact As)
    repeat (first | ((with_reducible refine AWp.ofC ?_ ?_); (focus exact rfl); simp only [go_sem]) | ((with_reducible refine an ?_ ?_); focus exact Au))
    refine ⟨fun h4 => ?_, fun h4 => ?_⟩
    · repeat (first | ((with_reducible refine AWp.ofC ?_ ?_); (focus exact rfl); simp only [go_sem]) | ((with_reducible refine an ?_ ?_); focus exact Au))
      refine ret_eq ?_; simp only [go_sem]
      cases hq : leqF a b with
      | false => rfl
      | true => have := (leq_iff_at.1 hq).2 k hka; omega
    · repeat (first | ((with_reducible refine AWp.ofC ?_ ?_); (focus exact rfl); simp only [go_sem]) | ((with_reducible refine an ?_ ?_); focus exact Au))
      refine ⟨_, List.Sublist.refl _, rfl, fun p hp => ?_⟩
      by_cases e : p = k
      · subst e; omega
      · exact hI p (by omega)
  · repeat (first | ((with_reducible refine AWp.ofC ?_ ?_); (focus exact rfl); simp only [go_sem]) | ((with_reducible refine an ?_ ?_); focus exact Au))
    refine ret_eq ?_; simp only [go_sem]
    rw [leq_iff_at.2 ⟨hl, fun p hp => hI p (by omega)⟩]
end Go.AL
end
section
/- The reference's Irreducible, Find, Between. No condition. -/
namespace Go.AL
open Go Go.RowKit
set_option maxRecDepth 4000
theorem ref23_Irr (ps : List Pr) (hs : Sm ps) (hn : 1 ≤ ps.length) (c : List Int) (hc : isF ps c = true) : PC Go.Proofs.Tryz.prog 40 [aTr ps, aInts c] (ab (irrF ps c)) := by
  have hcb := isF_cb hs hc
  have hl := hcb.1
  have hI := fun d => ref23_Is ps hs hn d
  have hir : irrF ps c = decide ((remN ps c c.length : Int) = 1) := by unfold irrF; rw [decide_eq_decide]; omega
  refine PC.enter 37 [.tmp 4] [2] Go.Proofs.Tryz.func40 rfl rfl rfl rfl rfl (by simp) (AWp.of ?_); simp only [go_sem]
  repeat (first | ((with_reducible refine AWp.ofC ?_ ?_); (focus exact rfl); simp only [go_sem]) | ((with_reducible refine an ?_ ?_); focus exact Au))
  refine AWp.block (AWp.count 6 c.length [5] [1, 2] (fun k vs L => L = [] ∧ vs = [ai (remN ps c k : Nat)]) rfl rfl ⟨rfl, rfl⟩ ?_)
  rintro k vs L hk - ⟨rfl, rfl⟩
  have hst := remN_succ ps c k
  have hle := remN_le ps c k
  simp only [go_sem]
  repeat (first | ((with_reducible refine AWp.ofC ?_ ?_); (focus exact rfl); simp only [go_sem]) | ((with_reducible refine an ?_ ?_); focus exact Au))
  refine ⟨fun h1 => ?_, fun h1 => ?_⟩
  · have hkn : k < c.length := by omega
    have hg := getD_map (f := ai) hkn
    have hck := cAt_nat hkn
    have hb := hcb.2 _ (List.getElem_mem hkn)
    have hIk := hI (takC c k)
    have hsl : (takC c k).length = c.length := by unfold takC; rw [List.length_set]
    have htk : (c.map ai).set k (ai (c[k] - 1)) = (takC c k).map ai := by unfold takC; rw [hck, List.map_set]
    have hrm : remB ps c k = (decide (0 < c[k]) && isF ps (takC c k)) := by unfold remB; rw [hck]
    generalize isF ps (takC c k) = B at *
    generalize takC c k = d at *
    repeat (first | ((with_reducible refine AWp.ofC ?_ ?_); (focus exact rfl); simp only [go_sem, hg]) | ((with_reducible refine an ?_ ?_); focus exact Au))
    refine ⟨fun h2 => ?_, fun h2 => ?_⟩
    · have hrB : remB ps c k = B := by rw [hrm, decide_eq_true h2]; rfl
      rw [hrB] at hst
      repeat (first | ((with_reducible refine AWp.ofC ?_ ?_); (focus exact rfl); simp only [go_sem, hg]) | ((with_reducible refine an ?_ ?_); focus exact Au))
      intro b0
      refine ⟨⟨by omega, by omega⟩, fun b cap hcap => ?_⟩
      repeat (first | ((with_reducible refine AWp.ofC ?_ ?_); (focus exact rfl); simp only [go_sem, hg]) | ((with_reducible refine an ?_ ?_); focus exact Au))
      repeat ((with_reducible refine an ?_ ?_); focus exact As)
      rw [htk]
      have hvw : Vw [(b, .row 3 1 (d.map ai) cap)] (.ls b 1 0 c.length cap) (aInts d) := Vw.ofLs (xs := d.map ai) (if_pos rfl) (by rw [List.length_map, hsl])
      refine (PC.view (Vws.cons (.refl _) (Vws.cons hvw .nil)) hIk (Own.v _) ?_).val
      simp only [go_sem]
      repeat (first | ((with_reducible refine AWp.ofC ?_ ?_); (focus exact rfl); simp only [go_sem]) | ((with_reducible refine an ?_ ?_); focus exact Au))
      refine ⟨fun h3 => ?_, fun h3 => ?_⟩
      · subst h3
        rw [if_pos rfl] at hst
        repeat (first | ((with_reducible refine AWp.ofC ?_ ?_); (focus exact rfl); simp only [go_sem]) | ((with_reducible refine an ?_ ?_); focus exact Au))
        exact ⟨[], List.nil_sublist _, rfl, by rw [hst]; simp⟩
      · subst h3
        rw [if_neg (by decide)] at hst
        repeat (first | ((with_reducible refine AWp.ofC ?_ ?_); (focus exact rfl); simp only [go_sem]) | ((with_reducible refine an ?_ ?_); focus exact Au))
        exact ⟨[], List.nil_sublist _, rfl, by rw [hst]; rfl⟩
    · have hrB : remB ps c k = false := by rw [hrm, decide_eq_false h2]; rfl
      rw [hrB, if_neg (by decide)] at hst
      repeat (first | ((with_reducible refine AWp.ofC ?_ ?_); (focus exact rfl); simp only [go_sem]) | ((with_reducible refine an ?_ ?_); focus exact Au))
      exact ⟨_, List.Sublist.refl _, rfl, by rw [hst]; rfl⟩
  · have : k = c.length := by omega
    subst this
    rw [hir]
    repeat (first | ((with_reducible refine AWp.ofC ?_ ?_); (focus exact rfl); simp only [go_sem]) | ((with_reducible refine an ?_ ?_); focus exact Au))
    refine ret_eq ?_; simp only [go_sem]
theorem ref23_Find (l : List (List Int)) (c : List Int) (hl : l.length ≤ 1000000) (hx : ∀ x ∈ l, x.length ≤ 1000000) : PC Go.Proofs.Tryz.prog 41 [aRows l, aInts c] (ai (idxF l c)) := by
  have hR : ∀ x : List (List Int), aRows x = .sl 1 (x.map aInts) := fun _ => rfl
  have hid : idxF l c = match l.findIdx? fun d => decide (d = c) with | some i => (i : Int) | none => -1 := by
    unfold idxF
    have : (fun d => decide (c = d)) = fun d => decide (d = c) := funext fun d => by rw [decide_eq_decide]; exact eq_comm
    rw [this]; rfl
  rw [hR]
  refine PC.enter 19 [.tmp 4] [] Go.Proofs.Tryz.func41 rfl rfl rfl rfl rfl (by simp) (AWp.of ?_); simp only [go_sem]
  repeat (first | ((with_reducible refine AWp.ofC ?_ ?_); (focus exact rfl); simp only [go_sem]) | ((with_reducible refine an ?_ ?_); focus exact Au))
  refine AWp.block (AWp.count 5 l.length [] [0, 1] (fun k vs L => L = [] ∧ ∀ (j : Nat) (hj : j < l.length), j < k → ¬ l[j] = c) rfl rfl ⟨rfl, fun j hj h => by omega⟩ ?_)
  rintro k vs L hk - ⟨rfl, hI⟩
  simp only [go_sem]
  repeat (first | ((with_reducible refine AWp.ofC ?_ ?_); (focus exact rfl); simp only [go_sem]) | ((with_reducible refine an ?_ ?_); focus exact Au))
  refine ⟨fun h1 => ?_, fun h1 => ?_⟩
  · have hkl : k < l.length := by omega
    have hg := getD_map (f := aInts) hkl
    have hS := ref15_SameList l[k] c (hx _ (List.getElem_mem hkl))
    repeat (first | ((with_reducible refine AWp.ofC ?_ ?_); (focus exact rfl); simp only [go_sem, hg]) | ((with_reducible refine an ?_ ?_); focus exact Au))
    repeat ((with_reducible refine an ?_ ?_); focus exact As)
    refine (hS).val.use ?_; simp only [go_sem]
    repeat (first | ((with_reducible refine AWp.ofC ?_ ?_); (focus exact rfl); simp only [go_sem]) | ((with_reducible refine an ?_ ?_); focus exact Au))
    refine ⟨fun h2 => ?_, fun h2 => ?_⟩
    · have : (l.findIdx? fun d => decide (d = c)) = some k := by
        rw [List.findIdx?_eq_some_iff_getElem]
        exact ⟨hkl, decide_eq_true h2, fun j hj => by simpa using hI j (by omega) hj⟩
      rw [this] at hid
      rw [hid]
      repeat (first | ((with_reducible refine AWp.ofC ?_ ?_); (focus exact rfl); simp only [go_sem]) | ((with_reducible refine an ?_ ?_); focus exact Au))
      refine ret_eq ?_; simp only [go_sem]
    · repeat (first | ((with_reducible refine AWp.ofC ?_ ?_); (focus exact rfl); simp only [go_sem]) | ((with_reducible refine an ?_ ?_); focus exact Au))
      refine ⟨_, List.Sublist.refl _, rfl, fun j hj hjk => ?_⟩
      by_cases e : j = k
      · subst e; exact h2
      · exact hI j hj (by omega)
  · have : (l.findIdx? fun d => decide (d = c)) = none := by
      rw [List.findIdx?_eq_none_iff]
      intro x hx
      obtain ⟨j, hj, rfl⟩ := List.getElem_of_mem hx
      exact decide_eq_false (hI j hj (by omega))
    rw [this] at hid
    rw [hid]
    repeat (first | ((with_reducible refine AWp.ofC ?_ ?_); (focus exact rfl); simp only [go_sem]) | ((with_reducible refine an ?_ ?_); focus exact Au))
    refine ret_eq ?_; simp only [go_sem]
theorem filt_succ {p : List Int → Bool} {l : List (List Int)} {i : Nat} (hi : i < l.length) : (l.take (i + 1)).filter p = (l.take i).filter p ++ if p l[i] = true then [l[i]] else [] := by
  rw [List.take_succ_eq_append_getElem hi, List.filter_append]
  congr 1
  cases h : p l[i] <;> simp [h]
theorem ref23_Between (l : List (List Int)) (a b : List Int) (hl : l.length ≤ 1000000) (n : Nat) (hn : n ≤ 1000000) (ha : a.length = n) (hb : b.length = n) (hx : ∀ x ∈ l, x.length = n) : PC Go.Proofs.Tryz.prog 42 [aRows l, aInts a, aInts b] (aRows (l.filter fun c => leqF a c && leqF c b)) := by
  have hR : ∀ x : List (List Int), aRows x = .sl 1 (x.map aInts) := fun _ => rfl
  rw [hR, hR]
  refine PC.enter 37 [.tmp 6] [34] Go.Proofs.Tryz.func42 rfl rfl rfl rfl rfl (by simp) (AWp.of ?_); simp only [go_sem]
  repeat (first | ((with_reducible refine AWp.ofC ?_ ?_); (focus exact rfl); simp only [go_sem]) | ((with_reducible refine an ?_ ?_); focus exact Au))
  refine AWp.block (AWp.loopN [7, 8] [0, 1, 2] (fun m vs L => ∃ (i : Nat) (v : AV), vs = [v, ai i] ∧ i ≤ l.length ∧ m = l.length - i ∧ AppSt 43 1 (((l.take i).filter fun c => leqF a c && leqF c b).map aInts) v L) l.length ⟨0, anil, rfl, by omega, rfl, .nil⟩ ?_)
  rintro m vs L - ⟨i, v, rfl, hi, rfl, hA⟩
  have hyl : (((l.take i).filter fun c => leqF a c && leqF c b).map aInts).length ≤ 1000000 := by
    rw [List.length_map]
    have := List.length_filter_le (fun c => leqF a c && leqF c b) (l.take i)
    rw [List.length_take] at this
    omega
  by_cases hil : i < l.length
  · have hii : (i : Int) < (l.length : Int) := by omega
    have hxi := hx _ (List.getElem_mem hil)
    have h1 := ref15_Leq a l[i] (by omega) (by omega)
    have h2 := ref15_Leq l[i] b (by omega) (by omega)
    have hg := getD_map (f := aInts) hil
    have hst := congrArg (List.map aInts) (filt_succ (p := fun c => leqF a c && leqF c b) hil)
    rw [List.map_append] at hst
    generalize ((l.take i).filter fun c => leqF a c && leqF c b).map aInts = ys at *
    generalize leqF a l[i] = e1 at *
    generalize leqF l[i] b = e2 at *
    generalize l[i] = c at *
    rcases hA.inv with ⟨e0, rfl, rfl⟩ | ⟨bq, cap, rfl, rfl⟩
    · simp only [go_sem]
      repeat (first | ((with_reducible refine AWp.ofC ?_ ?_); (focus exact rfl); simp only [go_sem, hii, hg]) | ((with_reducible refine an ?_ ?_); focus exact Au))
      repeat ((with_reducible refine an ?_ ?_); focus exact As)
      refine (h1).val.use ?_; simp only [go_sem, hg]
      repeat ((with_reducible refine an ?_ ?_); focus exact As)
      refine GCall.use (ab e2) (fun _ => ⟨At, (h2).val.use ⟨rfl, rfl⟩⟩) ?_; simp only [go_sem]
      cases hp : (e1 && e2) with
      | true =>
        rw [hp, if_pos rfl, e0] at hst
        repeat (first | ((with_reducible refine AWp.ofC ?_ ?_); (focus exact rfl); simp only [go_sem, hg]) | ((with_reducible refine an ?_ ?_); focus exact Au))
        intro b' cap' hc'
        repeat (first | ((with_reducible refine AWp.ofC ?_ ?_); (focus exact rfl); simp only [go_sem]) | ((with_reducible refine an ?_ ?_); focus exact Au))
        exact ⟨_, List.Sublist.refl _, _, by omega, i + 1, _, by simp; rfl, by omega, rfl, by rw [hst]; exact .row b' [aInts c] cap'⟩
      | false =>
        rw [hp, if_neg (by decide), e0] at hst
        repeat (first | ((with_reducible refine AWp.ofC ?_ ?_); (focus exact rfl); simp only [go_sem, hg]) | ((with_reducible refine an ?_ ?_); focus exact Au))
        exact ⟨_, List.Sublist.refl _, _, by omega, i + 1, _, by simp; rfl, by omega, rfl, by rw [hst]; exact .nil⟩
    · simp only [go_sem]
      repeat (first | ((with_reducible refine AWp.ofC ?_ ?_); (focus exact rfl); simp only [go_sem, hii, hg]) | ((with_reducible refine an ?_ ?_); focus exact Au))
      repeat ((with_reducible refine an ?_ ?_); focus exact As)
      refine (h1).val.use ?_; simp only [go_sem, hg]
      repeat ((with_reducible refine an ?_ ?_); focus exact As)
      refine GCall.use (ab e2) (fun _ => ⟨At, (h2).val.use ⟨rfl, rfl⟩⟩) ?_; simp only [go_sem]
      cases hp : (e1 && e2) with
      | true =>
        rw [hp, if_pos rfl] at hst
        repeat (first | ((with_reducible refine AWp.ofC ?_ ?_); (focus exact rfl); simp only [go_sem, hg]) | ((with_reducible refine an ?_ ?_); focus exact Au))
        intro b' cap' hc'
        repeat (first | ((with_reducible refine AWp.ofC ?_ ?_); (focus exact rfl); simp only [go_sem]) | ((with_reducible refine an ?_ ?_); focus exact Au))
        exact ⟨_, List.Sublist.refl _, _, by omega, i + 1, _, by simp; rfl, by omega, rfl, by rw [hst]; exact AppSt.snoc b' cap' _ rfl⟩
      | false =>
        rw [hp, if_neg (by decide)] at hst
        repeat (first | ((with_reducible refine AWp.ofC ?_ ?_); (focus exact rfl); simp only [go_sem, hg]) | ((with_reducible refine an ?_ ?_); focus exact Au))
        refine ⟨_, List.Sublist.refl _, _, by omega, i + 1, _, by simp; rfl, by omega, rfl, ?_⟩
        rw [hst]; simpa using AppSt.row bq ys cap
  · have hii : ¬ (i : Int) < (l.length : Int) := by omega
    have : l.take i = l := List.take_of_length_le (by omega)
    rw [this] at hA
    generalize (l.filter fun c => leqF a c && leqF c b).map aInts = ys at *
    rcases hA.inv with ⟨e1, rfl, rfl⟩ | ⟨bq, cap, rfl, rfl⟩
    · simp only [go_sem]
      repeat (first | ((with_reducible refine AWp.ofC ?_ ?_); (focus exact rfl); simp only [go_sem, hii]) | ((with_reducible refine an ?_ ?_); focus exact Au))
      refine ret_view [] ?_; simp only [go_sem]
      rw [e1]; exact .nil 1
    · simp only [go_sem]
      repeat (first | ((with_reducible refine AWp.ofC ?_ ?_); (focus exact rfl); simp only [go_sem, hii]) | ((with_reducible refine an ?_ ?_); focus exact Au))
      refine ret_view [true] ?_; simp only [go_sem]
      exact Vw.ofLs (if_pos rfl) rfl
end Go.AL
end
section
/- Tables of inclusion; equal relations. No condition. -/
namespace Go.AL
open Go Go.RowKit
set_option maxRecDepth 4000
def aBs (l : List Bool) : AV := .sl 1 (l.map ab)
def aTab (T : List (List Bool)) : AV := .sl 1 (T.map aBs)
def rowB (f : Nat → Bool) (n j : Nat) : List Bool := (List.range n).map fun k => if k < j then f k else false
theorem rowB_len (f : Nat → Bool) (n j : Nat) : (rowB f n j).length = n := by simp [rowB]
theorem rowB_zero (f : Nat → Bool) (n : Nat) : (rowB f n 0).map ab = List.replicate n (ab false) := by
  unfold rowB
  rw [List.map_map, List.eq_replicate_iff]
  refine ⟨by simp, fun b hb => ?_⟩
  obtain ⟨k, _, rfl⟩ := List.mem_map.1 hb
  simp
theorem rowB_set {f : Nat → Bool} {n j : Nat} : ((rowB f n j).map ab).set j (ab (f j)) = (rowB f n (j + 1)).map ab := by
  apply List.ext_getElem?
  intro i
  rw [List.getElem?_set]
  unfold rowB
  simp only [List.map_map, List.getElem?_map, List.length_map, List.length_range]
  by_cases hi : i < n
  · rw [List.getElem?_range hi]
    by_cases e : j = i
    · subst e; simp [hi]
    · rw [if_neg e]
      simp only [Option.map_some, Function.comp]
      by_cases h : i < j
      · rw [if_pos h, if_pos (by omega)]
      · rw [if_neg h, if_neg (by omega)]
  · rw [List.getElem?_eq_none (by simp; omega)]
    by_cases e : j = i
    · subst e; simp [hi]
    · rw [if_neg e]; rfl
theorem rowB_full (f : Nat → Bool) (n : Nat) : rowB f n n = (List.range n).map f := by
  unfold rowB
  exact List.map_congr_left fun k hk => by rw [if_pos (List.mem_range.1 hk)]
theorem incT_len (l : List (List Int)) : (incT l).length = l.length := by simp [incT]
theorem incT_succ (l : List (List Int)) {i : Nat} (hi : i < l.length) : (incT l).take (i + 1) = (incT l).take i ++ [(List.range l.length).map fun j => incB l i j] := by
  rw [List.take_succ_eq_append_getElem (by rw [incT_len]; exact hi)]
  congr 2
  unfold incT
  rw [List.getElem_map, List.getElem_range]
theorem ref23_Inclusion (l : List (List Int)) (hl : l.length ≤ 1000000) (n : Nat) (hn : n ≤ 1000000) (hx : ∀ x ∈ l, x.length = n) : PC Go.Proofs.Tryz.prog 39 [aRows l] (aTab (incT l)) := by
  have hR : ∀ x : List (List Int), aRows x = .sl 1 (x.map aInts) := fun _ => rfl
  have hT : aTab (incT l) = .sl 1 ((incT l).map aBs) := rfl
  rw [hR, hT]
  refine PC.enter 44 [.tmp 2] [41] Go.Proofs.Tryz.func39 rfl rfl rfl rfl rfl (by simp) (AWp.of ?_); simp only [go_sem]
  repeat (first | ((with_reducible refine AWp.ofC ?_ ?_); (focus exact rfl); simp only [go_sem]) | ((with_reducible refine an ?_ ?_); focus exact Au))
  refine AWp.block (AWp.count 4 l.length [3] [0] (fun i vs L => ∃ v, vs = [v] ∧ AppSt 114 1 (((incT l).take i).map aBs) v L) rfl rfl ⟨anil, rfl, .nil⟩ ?_)
  rintro i vs L hi - ⟨v, rfl, hA⟩
  have hfo := hA.fo
  have hyl : (((incT l).take i).map aBs).length ≤ 1000000 := by rw [List.length_map, List.length_take]; omega
  simp only [go_sem]
  repeat (first | ((with_reducible refine AWp.ofC ?_ ?_); (focus exact rfl); simp only [go_sem]) | ((with_reducible refine an ?_ ?_); focus exact Au))
  refine ⟨fun h => ?_, fun h => ?_⟩
  · have hil : i < l.length := by omega
    have hgi := getD_map (f := aInts) hil
    have hxi := hx _ (List.getElem_mem hil)
    have hst := congrArg (List.map aBs) (incT_succ l hil)
    rw [List.map_append] at hst
    generalize ((incT l).take i).map aBs = ys at *
    repeat (first | ((with_reducible refine AWp.ofC ?_ ?_); (focus exact rfl); simp only [go_sem]) | ((with_reducible refine an ?_ ?_); focus exact Au))
    intro b5 g5
    repeat (first | ((with_reducible refine AWp.ofC ?_ ?_); (focus exact rfl); simp only [go_sem]) | ((with_reducible refine an ?_ ?_); focus exact Au))
    refine AWp.block (AWp.count 6 l.length [] [0, 3, 4, 5] (fun j vs L' => L' = (b5, .row 4 1 ((rowB (incB l i) l.length j).map ab) l.length) :: L) rfl rfl (by rw [rowB_zero]) ?_)
    rintro j vs L' hj - rfl
    simp only [go_sem]
    repeat (first | ((with_reducible refine AWp.ofC ?_ ?_); (focus exact rfl); simp only [go_sem]) | ((with_reducible refine an ?_ ?_); focus exact Au))
    refine ⟨fun h2 => ?_, fun h2 => ?_⟩
    · have hjl : j < l.length := by omega
      have hgj := getD_map (f := aInts) hjl
      have hxj := hx _ (List.getElem_mem hjl)
      have hq := ref15_Leq l[i] l[j] (by omega) (by omega)
      have hbl : ((rowB (incB l i) l.length j).map ab).length = l.length := by rw [List.length_map, rowB_len]
      have hgr : ((rowB (incB l i) l.length j).map ab).getD j .any = ab ((rowB (incB l i) l.length j)[j]'(by rw [rowB_len]; exact hjl)) := getD_map _
      have hset := rowB_set (f := incB l i) (n := l.length) (j := j)
      have hinc : incB l i j = (!decide (i = j) && leqF l[i] l[j]) := by unfold incB; simp [List.getD_eq_getElem?_getD, hil, hjl]
      rw [hinc] at hset
      generalize leqF l[i] l[j] = e1 at *
      have hij : decide ((i : Int) = j) = decide (i = j) := by rw [decide_eq_decide]; omega
      refine AWp.seq (AWp.block ?_)
      refine AWp.mix mixed [0, 1, 2, 3, 4, 5, 6, 7, 8, 9, 10, 11, 12, 13, 14, 15] (.step 16 (.step 17 .done .done) .done) (by kernel_rfl) ?_; simp only [go_sem, hgi, hgj]
      repeat ((with_reducible refine an ?_ ?_); focus exact As)
      refine GCall.use (ab e1) (fun _ => ⟨At, (hq).val.use ⟨rfl, rfl⟩⟩) ?_; simp only [go_sem, hgr, hbl, hij]
      repeat ((with_reducible refine an ?_ ?_); focus exact As)
      repeat (first | ((with_reducible refine AWp.ofC ?_ ?_); (focus exact rfl); simp only [go_sem]) | ((with_reducible refine an ?_ ?_); focus exact Au))
      refine ⟨_, List.Sublist.refl _, ?_⟩
      rw [← hset]
    · have : j = l.length := by omega
      subst this
      rw [rowB_full]
      refine AWp.viewP (Lf := [(b5, _)]) (Lk := L) (L' := L) (List.Perm.refl _) (LVw.refl _) [(5, aBs ((List.range l.length).map fun j => incB l i j))] (fun q hq => ?_) ?_
      · obtain rfl := List.mem_singleton.1 hq
        simp only [go_sem]
        exact Vw.ofLs (t := 4) (cap := l.length) (if_pos rfl) (by simp)
      generalize (List.range l.length).map (fun j => incB l i j) = rw at *
      have hbs : aBs rw = .sl 1 (rw.map ab) := rfl
      rcases hA.inv with ⟨e1, rfl, rfl⟩ | ⟨bq, cap, rfl, rfl⟩
      · simp only [go_sem]
        repeat (first | ((with_reducible refine AWp.ofC ?_ ?_); (focus exact rfl); simp only [go_sem, hbs]) | ((with_reducible refine an ?_ ?_); focus exact Au))
        intro b' cap' hc'
        repeat (first | ((with_reducible refine AWp.ofC ?_ ?_); (focus exact rfl); simp only [go_sem]) | ((with_reducible refine an ?_ ?_); focus exact Au))
        exact ⟨_, List.Sublist.refl _, _, rfl, by rw [hst, e1]; exact .row b' [aBs rw] cap'⟩
      · simp only [go_sem]
        repeat (first | ((with_reducible refine AWp.ofC ?_ ?_); (focus exact rfl); simp only [go_sem, hbs]) | ((with_reducible refine an ?_ ?_); focus exact Au))
        intro b' cap' hc'
        repeat (first | ((with_reducible refine AWp.ofC ?_ ?_); (focus exact rfl); simp only [go_sem]) | ((with_reducible refine an ?_ ?_); focus exact Au))
        exact ⟨_, List.Sublist.refl _, _, rfl, by rw [hst]; exact AppSt.snoc b' cap' _ rfl⟩
  · have : i = l.length := by omega
    subst this
    rw [List.take_of_length_le (by rw [incT_len]; exact Nat.le_refl _)] at hA
    generalize (incT l).map aBs = ys at *
    rcases hA.inv with ⟨e1, rfl, rfl⟩ | ⟨bq, cap, rfl, rfl⟩
    · repeat (first | ((with_reducible refine AWp.ofC ?_ ?_); (focus exact rfl); simp only [go_sem]) | ((with_reducible refine an ?_ ?_); focus exact Au))
      refine ret_view [] ?_; simp only [go_sem]
      rw [e1]; exact .nil 1
    · repeat (first | ((with_reducible refine AWp.ofC ?_ ?_); (focus exact rfl); simp only [go_sem]) | ((with_reducible refine an ?_ ?_); focus exact Au))
      refine ret_view [true] ?_; simp only [go_sem]
      exact Vw.ofLs (if_pos rfl) rfl
end Go.AL
end
section
/- Equal relations; the relation of a table. No condition. -/
namespace Go.AL
open Go Go.RowKit
set_option maxRecDepth 4000
theorem ref03_Same (n : Nat) (rs : List (List Nat)) (hl : rs.length ≤ 1000000) (hw : ∀ r ∈ rs, r.length ≤ 1000000) : PC Go.Proofs.Tryz.prog 37 [aRelR n rs, aRelR n rs] (ab true) := by
  unfold aRelR
  refine PC.enter 65 [.tmp 4] [2, 3, 6, 7] Go.Proofs.Tryz.func37 rfl rfl rfl rfl rfl (by simp) (AWp.of ?_); simp only [go_sem]
  repeat (first | ((with_reducible refine AWp.ofC ?_ ?_); (focus exact rfl); simp only [go_sem]) | ((with_reducible refine an ?_ ?_); focus exact Au))
  refine AWp.block (AWp.count 5 rs.length [] [2, 3] (fun k vs L => L = []) rfl rfl rfl ?_)
  rintro k vs L hk - rfl
  simp only [go_sem]
  repeat (first | ((with_reducible refine AWp.ofC ?_ ?_); (focus exact rfl); simp only [go_sem]) | ((with_reducible refine an ?_ ?_); focus exact Au))
  refine ⟨fun h => ?_, fun h => ?_⟩
  · have hkl : k < rs.length := by omega
    have hg : (rs.map (aBits n)).getD k .any = .agg [ai n, .sl 1 (rs[k].map fun w : Nat => au64 (w : Int))] := getD_map hkl
    have hwk := hw _ (List.getElem_mem hkl)
    generalize rs[k] = ws at *
    repeat (first | ((with_reducible refine AWp.ofC ?_ ?_); (focus exact rfl); simp only [go_sem, hg]) | ((with_reducible refine an ?_ ?_); focus exact Au))
    intro b6
    repeat (first | ((with_reducible refine AWp.ofC ?_ ?_); (focus exact rfl); simp only [go_sem, hg]) | ((with_reducible refine an ?_ ?_); focus exact Au))
    intro b7
    repeat (first | ((with_reducible refine AWp.ofC ?_ ?_); (focus exact rfl); simp only [go_sem]) | ((with_reducible refine an ?_ ?_); focus exact Au))
    refine AWp.block (AWp.count 8 ws.length [] [2, 3, 5, 6, 7] (fun j vs L => L = []) rfl rfl rfl ?_)
    rintro j vs L hj - rfl
    simp only [go_sem]
    repeat (first | ((with_reducible refine AWp.ofC ?_ ?_); (focus exact rfl); simp only [go_sem]) | ((with_reducible refine an ?_ ?_); focus exact Au))
    refine ⟨fun h2 => ?_, fun h2 => ?_⟩
    · have hjl : j < ws.length := by omega
      have hgj := getD_map (f := fun w : Nat => au64 (w : Int)) hjl
      refine AWp.seq (AWp.block (AWp.seq ?_))
      refine AWp.read mixed [0, 1, 2, 3, 4, 5, 6, 7, 8, 9, 10] (by kernel_rfl) ?_; simp only [go_sem, hgj]
      repeat ((with_reducible refine an ?_ ?_); focus exact As)
      repeat (first | ((with_reducible refine AWp.ofC ?_ ?_); (focus exact rfl); simp only [go_sem]) | ((with_reducible refine an ?_ ?_); focus exact Au))
      exact ⟨_, List.Sublist.refl _, rfl⟩
    · repeat (first | ((with_reducible refine AWp.ofC ?_ ?_); (focus exact rfl); simp only [go_sem]) | ((with_reducible refine an ?_ ?_); focus exact Au))
      exact ⟨_, List.Sublist.refl _, rfl⟩
  · repeat (first | ((with_reducible refine AWp.ofC ?_ ?_); (focus exact rfl); simp only [go_sem]) | ((with_reducible refine an ?_ ?_); focus exact Au))
    refine ret_eq ?_; simp only [go_sem]
def relS (b4 b2 n : Nat) (rs : List (List Nat)) (L : AHeap) : Prop :=
  (rs = [] ∧ L = [(b4, .row 62 1 [.agg [anil]] 1), (b2, .row 62 1 [.agg [anil]] 1)]) ∨
  ∃ c cap, (¬ c = b4 ∧ ¬ c = b2) ∧ L = [(c, .row 112 2 (rs.map (aBits n)) cap), (b4, .row 62 1 [.agg [.ls c 2 0 rs.length cap]] 1), (b2, .row 62 1 [.agg [anil]] 1)]
theorem relT_take (T : List (List Bool)) {i : Nat} (hi : i < T.length) : (relT T).take (i + 1) = (relT T).take i ++ [wordsF (fun j => (T.getD i []).getD j false) T.length T.length] := by
  rw [List.take_succ_eq_append_getElem (by simp [relT]; exact hi)]
  congr 2
  unfold relT
  rw [List.getElem_map, List.getElem_range]
theorem ref03_From (T : List (List Bool)) (hb : T.length ≤ 1000000) (hr : ∀ r ∈ T, r.length = T.length) : PC Go.Proofs.Tryz.prog 38 [aTab T] (aRelR T.length (relT T)) := by
  have hT : aTab T = .sl 1 (T.map aBs) := rfl
  have hrl : (relT T).length = T.length := by simp [relT]
  rw [hT]
  refine PC.enter 56 [.cell 2 62] [6, 52] Go.Proofs.Tryz.func38 rfl rfl rfl rfl rfl (by simp) (AWp.of ?_); simp only [go_sem]
  intro b2
  repeat (first | ((with_reducible refine AWp.ofC ?_ ?_); (focus exact rfl); simp only [go_sem]) | ((with_reducible refine an ?_ ?_); focus exact Au))
  intro b4 g4
  have n1 : ¬ b4 = b2 := by omega
  have n2 : ¬ b2 = b4 := by omega
  repeat (first | ((with_reducible refine AWp.ofC ?_ ?_); (focus exact rfl); simp only [go_sem]) | ((with_reducible refine an ?_ ?_); focus exact Au))
  refine AWp.block (AWp.count 5 T.length [] [0, 2, 3, 4] (fun i vs L => relS b4 b2 T.length ((relT T).take i) L) rfl rfl (.inl ⟨rfl, rfl⟩) ?_)
  rintro i vs L hi - hL
  simp only [go_sem]
  repeat (first | ((with_reducible refine AWp.ofC ?_ ?_); (focus exact rfl); simp only [go_sem]) | ((with_reducible refine an ?_ ?_); focus exact Au))
  refine ⟨fun h => ?_, fun h => ?_⟩
  · have hil : i < T.length := by omega
    have hgi : (T.map aBs).getD i .any = .sl 1 (T[i].map ab) := getD_map hil
    have hri := hr _ (List.getElem_mem hil)
    have hst := relT_take T hil
    have htl : ((relT T).take i).length = i := by rw [List.length_take]; omega
    have hm : IntKind.i64.wrap (((T.length : Int) + 63).tdiv 64) = (nW T.length : Nat) := by
      have : ((T.length : Int) + 63).tdiv 64 = ((nW T.length : Nat) : Int) := by unfold nW; rfl
      rw [this]
      exact IntWalk.i64_in _ (by unfold nW; omega)
    have hff : ∀ (j : Nat) (hj : j < T.length), (T.getD i []).getD j false = T[i][j]'(by omega) := fun j hj => by
      simp [List.getD_eq_getElem?_getD, hil, show j < T[i].length by omega]
    have hw0 := words_zero (fun j => (T.getD i []).getD j false) T.length
    generalize hf : (fun j => (T.getD i []).getD j false) = f at *
    have hff : ∀ (j : Nat) (hj : j < T.length), f j = T[i][j]'(by omega) := fun j hj => by rw [← hf]; exact hff j hj
    have hnW : nW T.length ≤ 1000000 := by unfold nW; omega
    clear hf
    repeat (first | ((with_reducible refine AWp.ofC ?_ ?_); (focus exact rfl); simp only [go_sem, hm]) | ((with_reducible refine an ?_ ?_); focus exact Au))
    intro bw gw
    repeat (first | ((with_reducible refine AWp.ofC ?_ ?_); (focus exact rfl); simp only [go_sem, hm]) | ((with_reducible refine an ?_ ?_); focus exact Au))
    intro b6 g5 g6
    clear g5 g6
    repeat (first | ((with_reducible refine AWp.ofC ?_ ?_); (focus exact rfl); simp only [go_sem]) | ((with_reducible refine an ?_ ?_); focus exact Au))
    refine AWp.block (AWp.count 7 T.length [] [0, 2, 3, 4, 5, 6] (fun j vs L' => L' = (bw, .row 113 1 ((wordsF f T.length j).map fun w : Nat => au64 (w : Int)) (nW T.length)) :: L) rfl rfl (by rw [hw0, List.map_replicate]; rfl) ?_)
    rintro j vs L' hj - rfl
    simp only [go_sem]
    repeat (first | ((with_reducible refine AWp.ofC ?_ ?_); (focus exact rfl); simp only [go_sem]) | ((with_reducible refine an ?_ ?_); focus exact Au))
    refine ⟨fun h2 => ?_, fun h2 => ?_⟩
    · have hjl : j < T.length := by omega
      have hgj : (T[i].map ab).getD j .any = ab (T[i][j]'(by omega)) := getD_map (by omega)
      have hfj := hff j hjl
      repeat (first | ((with_reducible refine AWp.ofC ?_ ?_); (focus exact rfl); simp only [go_sem, hgi, hgj]) | ((with_reducible refine an ?_ ?_); focus exact Au))
      refine ⟨fun h3 => ?_, fun h3 => ?_⟩
      · have hws := words_set (f := f) (n := T.length) (j := j) (by rw [hfj]; exact h3)
        have hq := quo64 j (by omega)
        have hr6 := rem64 j
        have hjm : j / 64 < nW T.length := by unfold nW; omega
        have hwl := word_lt (f := f) (j := j)
        have hgw : ((wordsF f T.length j).map fun w : Nat => au64 (w : Int)).getD (j / 64) .any = au64 (wordOf f (j / 64) j) := by
          rw [List.getD_eq_getElem?_getD, List.getElem?_map, words_get hjm]; rfl
        have hcv : IntKind.u64.wrap ((j % 64 : Nat) : Int) = ((j % 64 : Nat) : Int) := wrap_u64n (Nat.lt_of_lt_of_le (Nat.mod_lt j (by decide)) (by decide))
        have hsh := shl_bit (b := j % 64) (Nat.mod_lt j (by decide))
        have had := add_bit hwl (Nat.mod_lt j (by decide))
        have hlen : ((wordsF f T.length j).map fun w : Nat => au64 (w : Int)).length = nW T.length := by rw [List.length_map, words_len]
        have hset : ((wordsF f T.length j).map fun w : Nat => au64 (w : Int)).set (j / 64) (au64 ((wordOf f (j / 64) j + 2 ^ (j % 64) : Nat) : Int)) = (wordsF f T.length (j + 1)).map fun w : Nat => au64 (w : Int) := by rw [hws, List.map_set]
        generalize ((wordsF f T.length j).map fun w : Nat => au64 (w : Int)) = ys at *
        generalize hd : j / 64 = jd at *
        generalize hmd : j % 64 = jm at *
        refine AWp.mix mixed [0, 1, 2, 3, 4, 5, 6, 7, 8, 10, 11, 12, 13] (.step 9 (.step 14 (.step 15 (.step 16 .done .done) .done) .done) .done) (by kernel_rfl) ?_; simp only [go_sem, hq, hr6, hgw, hcv, hsh, had, hlen]
        repeat ((with_reducible refine an ?_ ?_); focus exact As)
        repeat (first | ((with_reducible refine AWp.ofC ?_ ?_); (focus exact rfl); simp only [go_sem]) | ((with_reducible refine an ?_ ?_); focus exact Au))
        exact ⟨_, List.Sublist.refl _, by rw [← hset]⟩
      · have hws := words_no (f := f) (n := T.length) (j := j) (by rw [hfj]; exact h3)
        repeat (first | ((with_reducible refine AWp.ofC ?_ ?_); (focus exact rfl); simp only [go_sem]) | ((with_reducible refine an ?_ ?_); focus exact Au))
        exact ⟨_, List.Sublist.refl _, by rw [hws]⟩
    · have : j = T.length := by omega
      subst this
      have hvw : Vw [(bw, .row 113 1 ((wordsF f T.length T.length).map fun w : Nat => au64 (w : Int)) (nW T.length))] (.rp 2 [.agg [ai T.length, .ls bw 1 0 (nW T.length) (nW T.length)]] 0 0) (.rp 2 [aBits T.length (wordsF f T.length T.length)] 0 0) :=
        Vw.mkRp (Vws.cons (Vw.mkAgg (Vws.cons (.refl _) (Vws.cons (Vw.ofLs (t := 113) (cap := nW T.length) (if_pos rfl) (by rw [List.length_map, words_len])) .nil))) .nil)
      refine AWp.viewP (Lf := [(bw, _)]) (Lk := L) (L' := L) (List.Perm.refl _) (LVw.refl _) [(6, .rp 2 [aBits T.length (wordsF f T.length T.length)] 0 0)] (fun q hq => ?_) ?_
      · obtain rfl := List.mem_singleton.1 hq
        simp only [go_sem]
        exact hvw
      clear hvw gw
      have hb : aBits T.length (wordsF f T.length T.length) = .agg [ai T.length, .sl 1 ((wordsF f T.length T.length).map fun w : Nat => au64 (w : Int))] := rfl
      generalize wordsF f T.length T.length = ws at *
      generalize (relT T).take i = rs at *
      rcases hL with ⟨rfl, rfl⟩ | ⟨c, cap, ⟨d1, d2⟩, rfl⟩
      · have d0 : i = 0 := by simpa using htl.symm
        simp only [go_sem]
        repeat (first | ((with_reducible refine AWp.ofC ?_ ?_); (focus exact rfl); simp only [go_sem, n1, hb]) | ((with_reducible refine an ?_ ?_); focus exact Au))
        intro c1 k1 h41 h21 hk1
        have d1 : ¬ c1 = b4 := by omega
        have d2 : ¬ c1 = b2 := by omega
        have d7 : ¬ b4 = c1 := by omega
        have d9 : ¬ b2 = c1 := by omega
        simp only [go_sem, d7]
        repeat (first | ((with_reducible refine AWp.ofC ?_ ?_); (focus exact rfl); simp only [go_sem]) | ((with_reducible refine an ?_ ?_); focus exact Au))
        rw [hst]
        exact ⟨_, List.Sublist.refl _, .inr ⟨c1, k1, ⟨d1, d2⟩, rfl⟩⟩
      · simp only [go_sem]
        have d3 : ¬ b4 = c := fun e => d1 e.symm
        have d4 : ¬ b2 = c := fun e => d2 e.symm
        have hrs : (rs.map (aBits T.length)).take rs.length = rs.map (aBits T.length) := List.take_of_length_le (by rw [List.length_map]; exact Nat.le_refl _)
        repeat (first | ((with_reducible refine AWp.ofC ?_ ?_); (focus exact rfl); simp only [go_sem, n1, d1, d2, d3, hb, hrs]) | ((with_reducible refine an ?_ ?_); focus exact Au))
        intro c1 k1 h41 h21 hk1
        have e1 : ¬ c1 = b4 := fun e => h41 e.symm
        have e2 : ¬ c1 = b2 := fun e => h21 e.symm
        simp only [go_sem, h41]
        repeat (first | ((with_reducible refine AWp.ofC ?_ ?_); (focus exact rfl); simp only [go_sem]) | ((with_reducible refine an ?_ ?_); focus exact Au))
        refine ⟨_, List.Sublist.refl _, ?_⟩
        rw [hst]
        exact .inr ⟨c1, k1, ⟨e1, e2⟩, by rw [List.length_append, List.map_append]; rfl⟩
  · have : i = T.length := by omega
    subst this
    rw [List.take_of_length_le (by omega)] at hL
    rcases hL with ⟨e0, rfl⟩ | ⟨c, cap, ⟨d1, d2⟩, rfl⟩
    · repeat (first | ((with_reducible refine AWp.ofC ?_ ?_); (focus exact rfl); simp only [go_sem, n1, n2]) | ((with_reducible refine an ?_ ?_); focus exact Au))
      refine ret_view [true, true] ?_; simp only [go_sem]
      simp only [go_sem, n2]
      have : relT T = [] := e0
      unfold aRelR
      rw [this]
      exact .mkAgg (Vws.cons (.nil 2) .nil)
    · have d3 : ¬ b4 = c := fun e => d1 e.symm
      have d4 : ¬ b2 = c := fun e => d2 e.symm
      repeat (first | ((with_reducible refine AWp.ofC ?_ ?_); (focus exact rfl); simp only [go_sem, n1, n2, d3, d4]) | ((with_reducible refine an ?_ ?_); focus exact Au))
      refine ret_view [true, true, true] ?_; simp only [go_sem]
      simp only [go_sem, n2, d4]
      exact .mkAgg (Vws.cons (Vw.ofLs (t := 112) (cap := cap) (if_pos rfl) (by rw [List.length_map])) .nil)
end Go.AL
end
section
/- The package cuts: Order. No condition. -/
namespace Go.AL
open Go Go.RowKit
set_option maxRecDepth 4000
noncomputable def ordE (ps : List Pr) : Int := if lstE ps ≠ 0 then lstE ps else if 512 < (cutsF ps).length then 9 else 0
noncomputable def ordR (ps : List Pr) : List (List Nat) := if ordE ps = 0 then incR (cutsF ps) else []
theorem incR_take (l : List (List Int)) {i : Nat} (hi : i < l.length) : (incR l).take (i + 1) = (incR l).take i ++ [wordsF (incB l i) l.length l.length] := by
  rw [List.take_succ_eq_append_getElem (by simp [incR]; exact hi)]
  congr 2
  unfold incR
  rw [List.getElem_map, List.getElem_range]
theorem cuts_Order (ps : List Pr) (hs : Sm ps) : PC Go.Proofs.Tryz.prog 36 [aTr ps] (.tup [aRelR (cutsF ps).length (ordR ps), ai (ordE ps)]) := by
  have h1 := cuts_list ps hs
  have hR : ∀ x : List (List Int), aRows x = .sl 1 (x.map aInts) := fun _ => rfl
  have hE : ordE ps = if lstE ps ≠ 0 then lstE ps else if 512 < (cutsF ps).length then 9 else 0 := rfl
  have hO : ordR ps = if ordE ps = 0 then incR (cutsF ps) else [] := rfl
  unfold aLst at h1
  by_cases e0 : lstE ps = 0
  · have hL : lstF ps = cutsF ps := by unfold lstF; rw [if_pos e0]
    obtain ⟨hv, h5⟩ := lst_zero.1 e0
    have h8 := (valid_len hv).2
    have hx : ∀ x ∈ cutsF ps, x.length ≤ 1000000 := fun x hx => by have := (isF_iff.1 ((mem_cutsF hv).1 hx)).1; omega
    rw [if_neg (by simpa using e0)] at hE
    rw [e0, hL] at h1
    clear hL e0 hv
    generalize ordE ps = oe at *
    generalize ordR ps = rs0 at *
    generalize cutsF ps = l at *
    by_cases h512 : 512 < l.length
    · rw [if_pos h512] at hE
      rw [hE, if_neg (by decide)] at hO
      rw [hE, hO]
      have hgt : (512 : Int) < (l.length : Int) := by omega
      refine PC.enter 77 [.cell 2 62, .tmp 3] [1, 9, 72] Go.Proofs.Tryz.func36 rfl rfl rfl rfl rfl (by simp) (AWp.of ?_); simp only [go_sem]
      intro b2
      repeat (first | ((with_reducible refine AWp.ofC ?_ ?_); (focus exact rfl); simp only [go_sem]) | ((with_reducible refine an ?_ ?_); focus exact Au))
      repeat ((with_reducible refine an ?_ ?_); focus exact As)
      refine (h1).val.use ?_; simp only [go_sem]
      repeat (first | ((with_reducible refine AWp.ofC ?_ ?_); (focus exact rfl); simp only [go_sem, hgt]) | ((with_reducible refine an ?_ ?_); focus exact Au))
      refine ret_view [true] ?_; simp only [go_sem]
      exact .mkTup (Vws.cons (Vw.mkAgg (Vws.cons (.nil 2) .nil)) (Vws.refl _))
    · rw [if_neg h512] at hE
      rw [hE, if_pos rfl] at hO
      rw [hE, hO]
      have hgt : ¬ (512 : Int) < (l.length : Int) := by omega
      have hil0 : (incR l).length = l.length := by simp [incR]
      have hm : IntKind.i64.wrap (((l.length : Int) + 63).tdiv 64) = (nW l.length : Nat) := by
        have : ((l.length : Int) + 63).tdiv 64 = ((nW l.length : Nat) : Int) := by unfold nW; rfl
        rw [this]
        exact IntWalk.i64_in _ (by unfold nW; omega)
      have hnW : nW l.length ≤ 1000000 := by unfold nW; omega
      refine PC.enter 77 [.cell 2 62, .tmp 3] [1, 9, 72] Go.Proofs.Tryz.func36 rfl rfl rfl rfl rfl (by simp) (AWp.of ?_); simp only [go_sem]
      intro b2
      repeat (first | ((with_reducible refine AWp.ofC ?_ ?_); (focus exact rfl); simp only [go_sem]) | ((with_reducible refine an ?_ ?_); focus exact Au))
      repeat ((with_reducible refine an ?_ ?_); focus exact As)
      refine (h1).val.use ?_; simp only [go_sem]
      repeat (first | ((with_reducible refine AWp.ofC ?_ ?_); (focus exact rfl); simp only [go_sem, hgt]) | ((with_reducible refine an ?_ ?_); focus exact Au))
      intro b6 g6
      have n1 : ¬ b6 = b2 := by omega
      have n2 : ¬ b2 = b6 := by omega
      repeat (first | ((with_reducible refine AWp.ofC ?_ ?_); (focus exact rfl); simp only [go_sem]) | ((with_reducible refine an ?_ ?_); focus exact Au))
      refine AWp.range' l.length [] [2, 4, 6, 27, 28] (fun i vs L => relS b6 b2 l.length ((incR l).take i) L) (by omega) rfl rfl rfl (.inl ⟨rfl, rfl⟩) ?_ ?_
      · rintro i vs L hil - hL
        have hgi := getD_map (f := aInts) hil
        have hst := incR_take l hil
        have htl : ((incR l).take i).length = i := by rw [List.length_take]; omega
        have hff : ∀ (j : Nat) (hj : j < l.length), incB l i j = (!decide (i = j) && leqF l[i] l[j]) := fun j hj => by unfold incB; simp [List.getD_eq_getElem?_getD, hil, hj]
        have hw0 := words_zero (incB l i) l.length
        have hxi := hx _ (List.getElem_mem hil)
        generalize incB l i = f at *
        simp only [go_sem]
        repeat (first | ((with_reducible refine AWp.ofC ?_ ?_); (focus exact rfl); simp only [go_sem, hgi, hm]) | ((with_reducible refine an ?_ ?_); focus exact Au))
        intro bw gw
        repeat (first | ((with_reducible refine AWp.ofC ?_ ?_); (focus exact rfl); simp only [go_sem, hm]) | ((with_reducible refine an ?_ ?_); focus exact Au))
        intro b9 g5 g9
        clear g5 g9
        repeat (first | ((with_reducible refine AWp.ofC ?_ ?_); (focus exact rfl); simp only [go_sem]) | ((with_reducible refine an ?_ ?_); focus exact Au))
        refine AWp.range' l.length [] [2, 4, 6, 7, 8, 9, 27, 28, 29, 42, 43] (fun j vs L' => L' = (bw, .row 113 1 ((wordsF f l.length j).map fun w : Nat => au64 (w : Int)) (nW l.length)) :: L) (by omega) rfl rfl rfl (by rw [hw0, List.map_replicate]; rfl) ?_ ?_
        · rintro j vs L' hjl - rfl
          have hgj := getD_map (f := aInts) hjl
          have hfj := hff j hjl
          have hq := cut_Leq l[i] l[j] hxi
          have hij : decide ((i : Int) = j) = decide (i = j) := by rw [decide_eq_decide]; omega
          generalize leqF l[i] l[j] = e1 at *
          simp only [go_sem]
          repeat (first | ((with_reducible refine AWp.ofC ?_ ?_); (focus exact rfl); simp only [go_sem, hgj, hij]) | ((with_reducible refine an ?_ ?_); focus exact Au))
          repeat ((with_reducible refine an ?_ ?_); focus exact As)
          refine GCall.use (ab e1) (fun _ => ⟨At, (hq).val.use ⟨rfl, rfl⟩⟩) ?_; simp only [go_sem]
          cases hc : (!decide (i = j) && e1) with
          | true =>
            rw [hc] at hfj
            have hws := words_set (f := f) (n := l.length) (j := j) hfj
            have hqo := quo64 j (by omega)
            have hr6 := rem64 j
            have hjm : j / 64 < nW l.length := by unfold nW; omega
            have hwl := word_lt (f := f) (j := j)
            have hgw : ((wordsF f l.length j).map fun w : Nat => au64 (w : Int)).getD (j / 64) .any = au64 (wordOf f (j / 64) j) := by
              rw [List.getD_eq_getElem?_getD, List.getElem?_map, words_get hjm]; rfl
            have hsh := shl_bit (b := j % 64) (Nat.mod_lt j (by decide))
            have had := or_bit hwl (Nat.mod_lt j (by decide))
            have hlen : ((wordsF f l.length j).map fun w : Nat => au64 (w : Int)).length = nW l.length := by rw [List.length_map, words_len]
            have hset : ((wordsF f l.length j).map fun w : Nat => au64 (w : Int)).set (j / 64) (au64 ((wordOf f (j / 64) j + 2 ^ (j % 64) : Nat) : Int)) = (wordsF f l.length (j + 1)).map fun w : Nat => au64 (w : Int) := by rw [hws, List.map_set]
            generalize ((wordsF f l.length j).map fun w : Nat => au64 (w : Int)) = ys at *
            generalize hd : j / 64 = jd at *
            generalize hmd : j % 64 = jm at *
            repeat (first | ((with_reducible refine AWp.ofC ?_ ?_); (focus exact rfl); simp only [go_sem]) | ((with_reducible refine an ?_ ?_); focus exact Au))
            refine AWp.mix mixed [0, 1, 2, 3, 4, 6, 7, 8] (.step 5 (.step 9 (.step 10 (.step 11 .done .done) .done) .done) .done) (by kernel_rfl) ?_; simp only [go_sem, hqo, hr6, hgw, hsh, had, hlen]
            repeat ((with_reducible refine an ?_ ?_); focus exact As)
            repeat (first | ((with_reducible refine AWp.ofC ?_ ?_); (focus exact rfl); simp only [go_sem, hgw]) | ((with_reducible refine an ?_ ?_); focus exact Au))
            exact ⟨_, List.Sublist.refl _, by rw [← hset]⟩
          | false =>
            rw [hc] at hfj
            have hws := words_no (f := f) (n := l.length) (j := j) hfj
            repeat (first | ((with_reducible refine AWp.ofC ?_ ?_); (focus exact rfl); simp only [go_sem]) | ((with_reducible refine an ?_ ?_); focus exact Au))
            exact ⟨_, List.Sublist.refl _, by rw [hws]⟩
        · rintro vs L' - rfl
          have hvw : Vw [(bw, .row 113 1 ((wordsF f l.length l.length).map fun w : Nat => au64 (w : Int)) (nW l.length))] (.rp 2 [.agg [ai l.length, .ls bw 1 0 (nW l.length) (nW l.length)]] 0 0) (.rp 2 [aBits l.length (wordsF f l.length l.length)] 0 0) :=
            Vw.mkRp (Vws.cons (Vw.mkAgg (Vws.cons (.refl _) (Vws.cons (Vw.ofLs (t := 113) (cap := nW l.length) (if_pos rfl) (by rw [List.length_map, words_len])) .nil))) .nil)
          simp only [go_sem]
          refine AWp.viewP (Lf := [(bw, _)]) (Lk := L) (L' := L) (List.Perm.refl _) (LVw.refl _) [(9, .rp 2 [aBits l.length (wordsF f l.length l.length)] 0 0)] (fun q hq => ?_) ?_
          · obtain rfl := List.mem_singleton.1 hq
            simp only [go_sem]
            exact hvw
          clear hvw gw
          have hb : aBits l.length (wordsF f l.length l.length) = .agg [ai l.length, .sl 1 ((wordsF f l.length l.length).map fun w : Nat => au64 (w : Int))] := rfl
          generalize wordsF f l.length l.length = ws at *
          generalize (incR l).take i = rs at *
          rcases hL with ⟨rfl, rfl⟩ | ⟨c, cap, ⟨d1, d2⟩, rfl⟩
          · simp only [go_sem]
            repeat (first | ((with_reducible refine AWp.ofC ?_ ?_); (focus exact rfl); simp only [go_sem, n1, hb]) | ((with_reducible refine an ?_ ?_); focus exact Au))
            intro c1 k1 h41 h21 hk1
            have d1 : ¬ c1 = b6 := by omega
            have d2 : ¬ c1 = b2 := by omega
            have d7 : ¬ b6 = c1 := by omega
            have d9 : ¬ b2 = c1 := by omega
            simp only [go_sem, d7]
            repeat (first | ((with_reducible refine AWp.ofC ?_ ?_); (focus exact rfl); simp only [go_sem, n1, n2, d1, d2, d7, d9]) | ((with_reducible refine an ?_ ?_); focus exact Au))
            rw [hst]
            exact ⟨_, List.Sublist.refl _, .inr ⟨c1, k1, ⟨d1, d2⟩, rfl⟩⟩
          · simp only [go_sem]
            have d3 : ¬ b6 = c := fun e => d1 e.symm
            have d4 : ¬ b2 = c := fun e => d2 e.symm
            have hrs : (rs.map (aBits l.length)).take rs.length = rs.map (aBits l.length) := List.take_of_length_le (by rw [List.length_map]; exact Nat.le_refl _)
            repeat (first | ((with_reducible refine AWp.ofC ?_ ?_); (focus exact rfl); simp only [go_sem, n1, d1, d2, d3, hb, hrs]) | ((with_reducible refine an ?_ ?_); focus exact Au))
            intro c1 k1 h41 h21 hk1
            have e1 : ¬ c1 = b6 := fun e => h41 e.symm
            have e2 : ¬ c1 = b2 := fun e => h21 e.symm
            simp only [go_sem, h41]
            repeat (first | ((with_reducible refine AWp.ofC ?_ ?_); (focus exact rfl); simp only [go_sem, n1, n2, e1, e2, h41, h21]) | ((with_reducible refine an ?_ ?_); focus exact Au))
            refine ⟨_, List.Sublist.refl _, ?_⟩
            rw [hst]
            exact .inr ⟨c1, k1, ⟨e1, e2⟩, by rw [List.length_append, List.map_append]; rfl⟩
      · rintro vs L - hL
        rw [List.take_of_length_le (by omega)] at hL
        rcases hL with ⟨e0, rfl⟩ | ⟨c, cap, ⟨d1, d2⟩, rfl⟩
        · simp only [go_sem]
          repeat (first | ((with_reducible refine AWp.ofC ?_ ?_); (focus exact rfl); simp only [go_sem, n1, n2]) | ((with_reducible refine an ?_ ?_); focus exact Au))
          refine ret_view [true, true] ?_; simp only [go_sem]
          simp only [go_sem, n2]
          unfold aRelR
          rw [e0]
          exact .mkTup (Vws.cons (.mkAgg (Vws.cons (.nil 2) .nil)) (Vws.refl _))
        · simp only [go_sem]
          have d3 : ¬ b6 = c := fun e => d1 e.symm
          have d4 : ¬ b2 = c := fun e => d2 e.symm
          repeat (first | ((with_reducible refine AWp.ofC ?_ ?_); (focus exact rfl); simp only [go_sem, n1, n2, d3, d4]) | ((with_reducible refine an ?_ ?_); focus exact Au))
          refine ret_view [true, true, true] ?_; simp only [go_sem]
          simp only [go_sem, n2, d4]
          exact .mkTup (Vws.cons (.mkAgg (Vws.cons (Vw.ofLs (t := 112) (cap := cap) (if_pos rfl) (by rw [List.length_map])) .nil)) (Vws.refl _))
  · rw [if_pos e0] at hE
    rw [hE, if_neg e0] at hO
    rw [hE, hO]
    generalize lstF ps = l at *
    generalize lstE ps = e at *
    refine PC.enter 77 [.cell 2 62, .tmp 3] [1, 9, 72] Go.Proofs.Tryz.func36 rfl rfl rfl rfl rfl (by simp) (AWp.of ?_); simp only [go_sem]
    intro b2
    repeat (first | ((with_reducible refine AWp.ofC ?_ ?_); (focus exact rfl); simp only [go_sem]) | ((with_reducible refine an ?_ ?_); focus exact Au))
    repeat ((with_reducible refine an ?_ ?_); focus exact As)
    refine (h1).val.use ?_; simp only [go_sem]
    repeat (first | ((with_reducible refine AWp.ofC ?_ ?_); (focus exact rfl); simp only [go_sem, e0]) | ((with_reducible refine an ?_ ?_); focus exact Au))
    refine ret_view [true] ?_; simp only [go_sem]
    exact .mkTup (Vws.cons (Vw.mkAgg (Vws.cons (.nil 2) .nil)) (Vws.refl _))
end Go.AL
end
