/- Texts of this claim's proof: WCu, WRr, WXq, WRt3. No condition. -/
import Derived.Test.YtceeooppejjliaaGreatDoorM16
import Derived.Test.YtceeooppejjliaaGreatDoorM7
import Derived.Test.YtceeooppejjliaaGreatDoorM12
import Derived.Test.YtceeooppejjliaaGreatDoorM13
import Derived.Test.YtceeooppejjliaaGreatDoorM17
import Derived.Test.YtceeooppejjliaaGreatDoorM14
import Derived.Test.YtceeooppejjliaaGreatDoorM15
section
/- The reference of layer 23: the list of consistent cuts. No condition. -/
namespace Go.AL
open Go Go.RowKit
set_option maxRecDepth 4000
/-- Counts within bounds. -/
def Cb (c : List Int) : Prop := c.length ≤ 1000000 ∧ ∀ z ∈ c, 0 ≤ z ∧ z ≤ 1000000
theorem isF_cb {ps : List Pr} (hs : Sm ps) {c : List Int} (h : isF ps c = true) : Cb c := by
  obtain ⟨h1, h2, _⟩ := isF_iff.1 h
  have := hs.procs
  refine ⟨by omega, fun z hz => ⟨isF_nonneg h z hz, ?_⟩⟩
  obtain ⟨p, hp, rfl⟩ := List.getElem_of_mem hz
  have h3 := ((inRange_iff h1).1 h2 p (by omega)).2
  have := hs.evs _ (List.getElem_mem (show p < ps.length by omega))
  rw [cAt_nat hp] at h3
  omega
theorem cb_take {c : List Int} (h : Cb c) (k : Nat) : 0 ≤ (c.take k).sum ∧ (c.take k).sum ≤ 1000000 * k := by
  have h2 := h.2
  clear h
  induction c generalizing k with
  | nil => rw [List.take_nil, List.sum_nil]; omega
  | cons a c ih =>
    cases k with
    | zero => simp
    | succ k =>
      have h0 := h2 a List.mem_cons_self
      have := ih k fun z hz => h2 z (List.mem_cons_of_mem _ hz)
      rw [List.take_succ_cons, List.sum_cons]; omega
theorem take_sum {c : List Int} {k : Nat} (hk : k < c.length) : (c.take (k + 1)).sum = (c.take k).sum + c[k] := by
  rw [List.take_add_one, List.getElem?_eq_getElem hk, List.sum_append]; simp
theorem ref23_Size (c : List Int) (hc : Cb c) : PC Go.Proofs.Tryz.prog 186 [aInts c] (ai c.sum) := by
  have hl := hc.1
  refine PC.enter 18 [.tmp 2] [] Go.Proofs.Tryz.func186 rfl rfl rfl rfl rfl (by simp) (AWp.of ?_); simp only [go_sem]
  repeat (first | ((with_reducible refine AWp.ofC ?_ ?_); exact rfl; simp only [go_sem]) | ((with_reducible refine an ?_ ?_); exact Au))
  refine AWp.block (AWp.count 4 c.length [3] [0] (fun k vs L => L = [] ∧ vs = [ai (c.take k).sum]) rfl rfl ⟨rfl, rfl⟩ ?_)
  rintro k vs L hk - ⟨rfl, rfl⟩
  have htk := cb_take hc k
  simp only [go_sem]
  repeat (first | ((with_reducible refine AWp.ofC ?_ ?_); exact rfl; simp only [go_sem]) | ((with_reducible refine an ?_ ?_); exact Au))
  refine ⟨fun h1 => ?_, fun h1 => ?_⟩
  · have hkc : k < c.length := by omega
    have hg := getD_map (f := ai) hkc
    have hz := hc.2 _ (List.getElem_mem hkc)
    have ht := take_sum hkc
    repeat (first | ((with_reducible refine AWp.ofC ?_ ?_); exact rfl; simp only [go_sem, hg]) | ((with_reducible refine an ?_ ?_); exact Au))
    repeat ((with_reducible refine an ?_ ?_); exact As)
    exact ⟨_, List.Sublist.refl _, rfl, by rw [ht]⟩
  · have : k = c.length := by omega
    subst this
    rw [List.take_length]
    repeat (first | ((with_reducible refine AWp.ofC ?_ ?_); exact rfl; simp only [go_sem]) | ((with_reducible refine an ?_ ?_); exact Au))
    refine ret_eq ?_; simp only [go_sem]
theorem lexF_hit : ∀ {a b : List Int} {k : Nat} (ha : k < a.length) (hb : k < b.length), a[k] = b[k] → lexF (a.drop k) (b.drop k) = lexF (a.drop (k + 1)) (b.drop (k + 1)) := fun {a b k} ha hb h => by
  rw [List.drop_eq_getElem_cons ha, List.drop_eq_getElem_cons hb, lexF, if_pos h]
theorem lexF_no {a b : List Int} {k : Nat} (ha : k < a.length) (hb : k < b.length) (h : ¬ a[k] = b[k]) : lexF (a.drop k) (b.drop k) = decide (a[k] < b[k]) := by
  rw [List.drop_eq_getElem_cons ha, List.drop_eq_getElem_cons hb, lexF, if_neg h]
theorem ref23_Before (a b : List Int) (ha : Cb a) (hb : Cb b) (hl : a.length = b.length) : PC Go.Proofs.Tryz.prog 135 [aInts a, aInts b] (ab (befF a b)) := by
  have h1 := ref23_Size a ha
  have h2 := ref23_Size b hb
  have hal := ha.1
  unfold befF
  by_cases hs : a.sum = b.sum
  · rw [if_pos hs]
    refine PC.enter 40 [.tmp 4] [] Go.Proofs.Tryz.func135 rfl rfl rfl rfl rfl (by simp) (AWp.of ?_); simp only [go_sem]
    repeat (first | ((with_reducible refine AWp.ofC ?_ ?_); exact rfl; simp only [go_sem]) | ((with_reducible refine an ?_ ?_); exact Au))
    repeat ((with_reducible refine an ?_ ?_); exact As)
    refine (h1).val.use ?_; simp only [go_sem]
    repeat ((with_reducible refine an ?_ ?_); exact As)
    refine (h2).val.use ?_; simp only [go_sem]
    repeat (first | ((with_reducible refine AWp.ofC ?_ ?_); exact rfl; simp only [go_sem, hs]) | ((with_reducible refine an ?_ ?_); exact Au))
    refine AWp.block (AWp.count 5 a.length [] [0, 1] (fun k vs L => L = [] ∧ lexF a b = lexF (a.drop k) (b.drop k)) rfl rfl ⟨rfl, rfl⟩ ?_)
    rintro k vs L hk - ⟨rfl, hI⟩
    simp only [go_sem]
    repeat (first | ((with_reducible refine AWp.ofC ?_ ?_); exact rfl; simp only [go_sem]) | ((with_reducible refine an ?_ ?_); exact Au))
    refine ⟨fun h3 => ?_, fun h3 => ?_⟩
    · have hka : k < a.length := by omega
      have hkb : k < b.length := by omega
      have ga := getD_map (f := ai) hka
      have gb := getD_map (f := ai) hkb
      refine AWp.seq (AWp.block (AWp.seq ?_))
      refine AWp.drawn mixed 9 (by kernel_rfl) ?_; simp only [go_sem, ga, gb]
      repeat ((with_reducible refine an ?_ ?_); exact As)
      repeat (first | ((with_reducible refine AWp.ofC ?_ ?_); exact rfl; simp only [go_sem]) | ((with_reducible refine an ?_ ?_); exact Au))
      refine ⟨fun h4 => ?_, fun h4 => ?_⟩
      · refine AWp.drawn mixed 9 (by kernel_rfl) ?_; simp only [go_sem, ga, gb]
        repeat (first | ((with_reducible refine AWp.ofC ?_ ?_); exact rfl; simp only [go_sem]) | ((with_reducible refine an ?_ ?_); exact Au))
        refine ret_eq ?_; simp only [go_sem]
        rw [hI, lexF_no hka hkb h4]
      · repeat (first | ((with_reducible refine AWp.ofC ?_ ?_); exact rfl; simp only [go_sem]) | ((with_reducible refine an ?_ ?_); exact Au))
        exact ⟨_, List.Sublist.refl _, rfl, by rw [hI, lexF_hit hka hkb (by omega)]⟩
    · have : k = a.length := by omega
      subst this
      repeat (first | ((with_reducible refine AWp.ofC ?_ ?_); exact rfl; simp only [go_sem]) | ((with_reducible refine an ?_ ?_); exact Au))
      refine ret_eq ?_; simp only [go_sem]
      rw [hI, List.drop_length]; rfl
  · rw [if_neg hs]
    refine PC.enter 40 [.tmp 4] [] Go.Proofs.Tryz.func135 rfl rfl rfl rfl rfl (by simp) (AWp.of ?_); simp only [go_sem]
    repeat (first | ((with_reducible refine AWp.ofC ?_ ?_); exact rfl; simp only [go_sem]) | ((with_reducible refine an ?_ ?_); exact Au))
    repeat ((with_reducible refine an ?_ ?_); exact As)
    refine (h1).val.use ?_; simp only [go_sem]
    repeat ((with_reducible refine an ?_ ?_); exact As)
    refine (h2).val.use ?_; simp only [go_sem]
    repeat (first | ((with_reducible refine AWp.ofC ?_ ?_); exact rfl; simp only [go_sem, hs]) | ((with_reducible refine an ?_ ?_); exact Au))
    repeat ((with_reducible refine an ?_ ?_); exact As)
    refine (h1).val.use ?_; simp only [go_sem]
    repeat ((with_reducible refine an ?_ ?_); exact As)
    refine (h2).val.use ?_; simp only [go_sem]
    repeat (first | ((with_reducible refine AWp.ofC ?_ ?_); exact rfl; simp only [go_sem]) | ((with_reducible refine an ?_ ?_); exact Au))
    refine ret_eq ?_; simp only [go_sem]
theorem ref23_Is (ps : List Pr) (hs : Sm ps) (hn : 1 ≤ ps.length) (c : List Int) : PC Go.Proofs.Tryz.prog 133 [aTr ps, aInts c] (ab (isF ps c)) := by
  have h1 := ref12_Cut ps hs c
  have h2 := fun h1 h2 => ref12_Consistent ps hs hn c h1 h2
  unfold isF
  generalize closedF ps c = B at *
  refine PC.enter 13 [.tmp 4] [2] Go.Proofs.Tryz.func133 rfl rfl rfl rfl rfl (by simp) (AWp.of ?_); simp only [go_sem]
  repeat (first | ((with_reducible refine AWp.ofC ?_ ?_); exact rfl; simp only [go_sem]) | ((with_reducible refine an ?_ ?_); exact Au))
  repeat ((with_reducible refine an ?_ ?_); exact As)
  refine (h1).val.use ?_; simp only [go_sem]
  refine GCall.use (ab B) ?_ ?_
  · intro g; exact ⟨At, (h2 (by simpa using g.1) (by simpa using g.2)).val.use ⟨rfl, rfl⟩⟩
  simp only [go_sem]
  repeat (first | ((with_reducible refine AWp.ofC ?_ ?_); exact rfl; simp only [go_sem]) | ((with_reducible refine an ?_ ?_); exact Au))
  refine ret_eq ?_; simp only [go_sem]
theorem ref23_Step (c : List Int) (hc : Cb c) (p : Nat) (hp : p < c.length) : PC Go.Proofs.Tryz.prog 134 [aInts c, ai p] (aInts (stpC c p)) := by
  have hl := hc.1
  have hz := hc.2 _ (List.getElem_mem hp)
  have hg := getD_map (f := ai) hp
  have hst : (c.map ai).set p (ai (c[p] + 1)) = (stpC c p).map ai := by unfold stpC; rw [cAt_nat hp, List.map_set]
  have hsl : (stpC c p).length = c.length := by unfold stpC; rw [List.length_set]
  refine PC.enter 18 [.tmp 4] [] Go.Proofs.Tryz.func134 rfl rfl rfl rfl rfl (by simp) (AWp.of ?_); simp only [go_sem]
  repeat (first | ((with_reducible refine AWp.ofC ?_ ?_); exact rfl; simp only [go_sem]) | ((with_reducible refine an ?_ ?_); exact Au))
  intro b0
  refine ⟨⟨by omega, by omega⟩, fun b cap hcap => ?_⟩
  repeat (first | ((with_reducible refine AWp.ofC ?_ ?_); exact rfl; simp only [go_sem, hg]) | ((with_reducible refine an ?_ ?_); exact Au))
  repeat ((with_reducible refine an ?_ ?_); exact As)
  rw [hst]
  refine ret_view [true] ?_; simp only [go_sem]
  exact Vw.ofLs (if_pos rfl) (by rw [List.length_map, hsl])
theorem ref23_Next (ps : List Pr) (hs : Sm ps) (hn : 1 ≤ ps.length) (c : List Int) (hc : isF ps c = true) : PC Go.Proofs.Tryz.prog 74 [aTr ps, aInts c] (aRows (nextL ps c)) := by
  have hcb := isF_cb hs hc
  obtain ⟨hl, hr, _⟩ := isF_iff.1 hc
  have hps := hs.procs
  have hI := fun d => ref23_Is ps hs hn d
  have hS := fun p hp => ref23_Step c hcb p hp
  have hlen := fun k => nextT_len ps c k
  have hR : aRows (nextL ps c) = .sl 1 ((nextT ps c c.length).map aInts) := rfl
  rw [hR]
  refine PC.enter 39 [.tmp 4] [2, 36] Go.Proofs.Tryz.func74 rfl rfl rfl rfl rfl (by simp) (AWp.of ?_); simp only [go_sem]
  repeat (first | ((with_reducible refine AWp.ofC ?_ ?_); exact rfl; simp only [go_sem]) | ((with_reducible refine an ?_ ?_); exact Au))
  refine AWp.block (AWp.count 6 c.length [5] [1, 2] (fun k vs L => ∃ v, vs = [v] ∧ AppSt 42 1 ((nextT ps c k).map aInts) v L) rfl rfl ⟨anil, rfl, .nil⟩ ?_)
  rintro k vs L hk - ⟨v, rfl, hA⟩
  have hfo := hA.fo
  have hyl : ((nextT ps c k).map aInts).length ≤ k := by rw [List.length_map]; exact hlen k
  simp only [go_sem]
  by_cases hkn : k < c.length
  · have hki : (k : Int) < c.length := by omega
    have hkp : k < ps.length := by omega
    have gc := getD_map (f := ai) hkn
    have gp := getD_map (f := aPr) hkp
    have hel := hs.evs _ (List.getElem_mem hkp)
    have hSk := hS k hkn
    have hIk := hI (stpC c k)
    have hsu := nextT_succ ps c k
    have hnx : nx1 ps c k = if c[k] < ps[k].evs.length ∧ isF ps (stpC c k) = true then [stpC c k] else [] := by unfold nx1; rw [cAt_nat hkn, nev_get hkp]
    rw [hnx] at hsu
    have hbd := hcb.2 _ (List.getElem_mem hkn)
    generalize isF ps (stpC c k) = B at *
    generalize stpC c k = s at *
    repeat (first | ((with_reducible refine AWp.ofC ?_ ?_); exact rfl; simp only [go_sem, hki]) | ((with_reducible refine an ?_ ?_); exact Au))
    refine AWp.seq (AWp.block (AWp.seq ?_))
    refine AWp.mix mixed [0, 1, 2, 3, 4, 5, 6, 7, 8, 9, 10, 11, 12, 13, 14, 15, 16, 17, 18] .done (by kernel_rfl) ?_; simp only [go_sem, gc, gp]
    repeat ((with_reducible refine an ?_ ?_); exact As)
    refine GCall.use (aInts s) ?_ ?_
    · intro _; exact ⟨At, hSk.val.use ⟨rfl, rfl⟩⟩
    simp only [go_sem]
    repeat ((with_reducible refine an ?_ ?_); exact As)
    refine GCall.use (ab B) ?_ ?_
    · intro _; exact ⟨At, hIk.val.use ⟨rfl, rfl⟩⟩
    simp only [go_sem]
    repeat ((with_reducible refine an ?_ ?_); exact As)
    repeat (first | ((with_reducible refine AWp.ofC ?_ ?_); exact rfl; simp only [go_sem]) | ((with_reducible refine an ?_ ?_); exact Au))
    refine ⟨fun h1 h2 => ?_, fun h1 => ?_⟩
    · rw [if_pos ⟨h1, h2⟩] at hsu
      generalize hys : (nextT ps c k).map aInts = ys at *
      rcases hA.inv with ⟨e1, rfl, rfl⟩ | ⟨b, cap, rfl, rfl⟩
      · repeat (first | ((with_reducible refine AWp.ofC ?_ ?_); exact rfl; simp only [go_sem]) | ((with_reducible refine an ?_ ?_); exact Au))
        repeat ((with_reducible refine an ?_ ?_); exact As)
        refine (hSk).val.use ?_; simp only [go_sem]
        intro b' cap' _
        repeat (first | ((with_reducible refine AWp.ofC ?_ ?_); exact rfl; simp only [go_sem]) | ((with_reducible refine an ?_ ?_); exact Au))
        refine ⟨_, List.Sublist.refl _, _, rfl, ?_⟩
        rw [hsu, List.map_append, hys, e1]
        exact .row _ _ _
      · repeat (first | ((with_reducible refine AWp.ofC ?_ ?_); exact rfl; simp only [go_sem]) | ((with_reducible refine an ?_ ?_); exact Au))
        repeat ((with_reducible refine an ?_ ?_); exact As)
        refine (hSk).val.use ?_; simp only [go_sem]
        refine ⟨⟨by omega, by omega⟩, fun b' cap' _ => ?_⟩
        repeat (first | ((with_reducible refine AWp.ofC ?_ ?_); exact rfl; simp only [go_sem]) | ((with_reducible refine an ?_ ?_); exact Au))
        refine ⟨_, List.Sublist.refl _, _, rfl, ?_⟩
        rw [hsu, List.map_append, hys]
        have := AppSt.row (t := 42) (k := 1) b' (ys ++ [aInts s]) cap'
        simpa [aInts] using this
    · rw [if_neg (fun h => by have := h1 h.1; rw [h.2] at this; cases this), List.append_nil] at hsu
      repeat (first | ((with_reducible refine AWp.ofC ?_ ?_); exact rfl; simp only [go_sem]) | ((with_reducible refine an ?_ ?_); exact Au))
      refine ⟨_, List.Sublist.refl _, _, rfl, ?_⟩
      rw [hsu]; exact hA
  · have hki : ¬ (k : Int) < c.length := by omega
    have hke : k = c.length := by omega
    subst hke
    rcases hA.inv with ⟨e1, rfl, rfl⟩ | ⟨b, cap, rfl, rfl⟩
    · repeat (first | ((with_reducible refine AWp.ofC ?_ ?_); exact rfl; simp only [go_sem, hki]) | ((with_reducible refine an ?_ ?_); exact Au))
      refine ret_view [] ?_; simp only [go_sem]
      rw [e1]
      exact .nil 1
    · repeat (first | ((with_reducible refine AWp.ofC ?_ ?_); exact rfl; simp only [go_sem, hki]) | ((with_reducible refine an ?_ ?_); exact Au))
      refine ret_view [true] ?_; simp only [go_sem]
      exact Vw.ofLs (if_pos rfl) (by rw [List.length_map])
theorem ref15_SameList (a b : List Int) (ha : a.length ≤ 1000000) : PC Go.Proofs.Tryz.prog 136 [aInts a, aInts b] (ab (decide (a = b))) := by
  by_cases hl : a.length = b.length
  · have hli : (a.length : Int) = b.length := by omega
    refine PC.enter 26 [.tmp 4] [] Go.Proofs.Tryz.func136 rfl rfl rfl rfl rfl (by simp) (AWp.of ?_); simp only [go_sem]
    repeat (first | ((with_reducible refine AWp.ofC ?_ ?_); exact rfl; simp only [go_sem, hli]) | ((with_reducible refine an ?_ ?_); exact Au))
    refine AWp.block (AWp.count 5 a.length [] [0, 1] (fun k vs L => L = [] ∧ ∀ j (h1 : j < a.length) (h2 : j < b.length), j < k → a[j] = b[j]) rfl rfl ⟨rfl, fun j _ _ h => by omega⟩ ?_)
    rintro k vs L hk - ⟨rfl, hI⟩
    simp only [go_sem]
    repeat (first | ((with_reducible refine AWp.ofC ?_ ?_); exact rfl; simp only [go_sem, hli]) | ((with_reducible refine an ?_ ?_); exact Au))
    refine ⟨fun h3 => ?_, fun h3 => ?_⟩
    · have hka : k < a.length := by omega
      have hkb : k < b.length := by omega
      have ga := getD_map (f := ai) hka
      have gb := getD_map (f := ai) hkb
      refine AWp.seq (AWp.block (AWp.seq ?_))
      refine AWp.drawn mixed 9 (by kernel_rfl) ?_; simp only [go_sem, ga, gb]
      repeat ((with_reducible refine an ?_ ?_); exact As)
      repeat (first | ((with_reducible refine AWp.ofC ?_ ?_); exact rfl; simp only [go_sem]) | ((with_reducible refine an ?_ ?_); exact Au))
      refine ⟨fun h4 => ?_, fun h4 => ?_⟩
      · repeat (first | ((with_reducible refine AWp.ofC ?_ ?_); exact rfl; simp only [go_sem]) | ((with_reducible refine an ?_ ?_); exact Au))
        refine ret_eq ?_; simp only [go_sem]
        rw [decide_eq_false]
        rintro rfl
        exact h4 rfl
      · repeat (first | ((with_reducible refine AWp.ofC ?_ ?_); exact rfl; simp only [go_sem]) | ((with_reducible refine an ?_ ?_); exact Au))
        refine ⟨_, List.Sublist.refl _, rfl, fun j j1 j2 hj => ?_⟩
        by_cases e : j = k
        · subst e; omega
        · exact hI j j1 j2 (by omega)
    · repeat (first | ((with_reducible refine AWp.ofC ?_ ?_); exact rfl; simp only [go_sem]) | ((with_reducible refine an ?_ ?_); exact Au))
      refine ret_eq ?_; simp only [go_sem]
      rw [decide_eq_true]
      exact List.ext_getElem hl fun j j1 j2 => hI j j1 j2 (by omega)
  · have hli : ¬ (a.length : Int) = b.length := by omega
    rw [decide_eq_false fun h => hl (by rw [h])]
    refine PC.enter 26 [.tmp 4] [] Go.Proofs.Tryz.func136 rfl rfl rfl rfl rfl (by simp) (AWp.of ?_); simp only [go_sem]
    repeat (first | ((with_reducible refine AWp.ofC ?_ ?_); exact rfl; simp only [go_sem, hli]) | ((with_reducible refine an ?_ ?_); exact Au))
    refine ret_eq ?_; simp only [go_sem]
theorem insF_at {l : List (List Int)} {c : List Int} {k : Nat} (hk : k ≤ l.length) (h1 : ∀ j (hj : j < l.length), j < k → befF l[j] c = true) (h2 : ∀ hk : k < l.length, befF l[k] c = false) : (l.takeWhile fun x => befF x c) = l.take k ∧ (l.dropWhile fun x => befF x c) = l.drop k := by
  induction l generalizing k with
  | nil => simp
  | cons a l ih =>
    cases k with
    | zero =>
      have := h2 (by simp)
      simp only [List.getElem_cons_zero] at this
      rw [List.takeWhile_cons, List.dropWhile_cons, this]; simp
    | succ k =>
      have h0 := h1 0 (by simp) (by omega)
      simp only [List.getElem_cons_zero] at h0
      obtain ⟨i1, i2⟩ := ih (k := k) (by simpa using hk) (fun j hj hjk => by have := h1 (j + 1) (by simpa using hj) (by omega); simpa using this) (fun hk => by have := h2 (by simpa using hk); simpa using this)
      rw [List.takeWhile_cons, List.dropWhile_cons, h0]
      simp [i1, i2]
theorem ref23_insert (l : List (List Int)) (c : List Int) (hl : l.length ≤ 1000000) (hc : Cb c) (hr : ∀ x ∈ l, Cb x ∧ x.length = c.length) : PC Go.Proofs.Tryz.prog 75 [aRows l, aInts c] (aRows (insF l c)) := by
  have hB := fun j (hj : j < l.length) => ref23_Before l[j] c (hr _ (List.getElem_mem hj)).1 hc (hr _ (List.getElem_mem hj)).2
  have hE := fun j (hj : j < l.length) => ref15_SameList l[j] c (hr _ (List.getElem_mem hj)).1.1
  have hR : ∀ x : List (List Int), aRows x = .sl 1 (x.map aInts) := fun _ => rfl
  rw [hR, hR]
  refine PC.enter 48 [.tmp 4] [41] Go.Proofs.Tryz.func75 rfl rfl rfl rfl rfl (by simp) (AWp.of ?_); simp only [go_sem]
  repeat (first | ((with_reducible refine AWp.ofC ?_ ?_); exact rfl; simp only [go_sem]) | ((with_reducible refine an ?_ ?_); exact Au))
  refine AWp.cut [0, 1, 5] (fun vs L => L = [] ∧ ∃ k : Nat, k ≤ l.length ∧ vs = [.sl 1 (l.map aInts), aInts c, ai k] ∧ (∀ j (hj : j < l.length), j < k → befF l[j] c = true) ∧ ∀ hk : k < l.length, befF l[k] c = false) ?_ ?_
  · refine AWp.block (AWp.loopN [5] [0, 1] (fun m vs L => L = [] ∧ ∃ k : Nat, k ≤ l.length ∧ m = l.length - k ∧ vs = [ai k] ∧ ∀ j (hj : j < l.length), j < k → befF l[j] c = true) l.length ?_ ?_)
    · exact ⟨rfl, 0, by omega, rfl, rfl, fun j _ h => by omega⟩
    rintro m vs L - ⟨rfl, k, hk, rfl, rfl, hI⟩
    by_cases hkl : k < l.length
    · have hki : (k : Int) < l.length := by omega
      have g := getD_map (f := aInts) hkl
      have hBk := hB k hkl
      simp only [go_sem]
      repeat (first | ((with_reducible refine AWp.ofC ?_ ?_); exact rfl; simp only [go_sem, g, hki]) | ((with_reducible refine an ?_ ?_); exact Au))
      refine GCall.use (ab (befF l[k] c)) ?_ ?_
      · intro _; exact ⟨At, hBk.val.use ⟨rfl, rfl⟩⟩
      simp only [go_sem]
      repeat ((with_reducible refine an ?_ ?_); exact As)
      cases hb : befF l[k] c with
      | true =>
        repeat (first | ((with_reducible refine AWp.ofC ?_ ?_); exact rfl; simp only [go_sem]) | ((with_reducible refine an ?_ ?_); exact Au))
        refine ⟨_, List.Sublist.refl _, _, by omega, rfl, k + 1, by omega, rfl, by rw [show ((k + 1 : Nat) : Int) = (k : Int) + 1 by omega], fun j hj hjk => ?_⟩
        by_cases e : j = k
        · subst e; exact hb
        · exact hI j hj (by omega)
      | false =>
        repeat (first | ((with_reducible refine AWp.ofC ?_ ?_); exact rfl; simp only [go_sem]) | ((with_reducible refine an ?_ ?_); exact Au))
        exact ⟨_, List.Sublist.refl _, rfl, k, hk, rfl, hI, fun _ => hb⟩
    · have hki : ¬ (k : Int) < l.length := by omega
      have hke : k = l.length := by omega
      subst hke
      simp only [go_sem]
      repeat (first | ((with_reducible refine AWp.ofC ?_ ?_); exact rfl; simp only [go_sem, hki]) | ((with_reducible refine an ?_ ?_); exact Au))
      refine GCall.use (ab false) (fun g => by simp at g) ?_
      simp only [go_sem]
      repeat (first | ((with_reducible refine AWp.ofC ?_ ?_); exact rfl; simp only [go_sem]) | ((with_reducible refine an ?_ ?_); exact Au))
      exact ⟨_, List.Sublist.refl _, rfl, l.length, Nat.le_refl _, rfl, hI, fun h => by omega⟩
  · rintro vs L - ⟨rfl, k, hk, rfl, h1, h2⟩
    obtain ⟨i1, i2⟩ := insF_at hk h1 h2
    have hck := hc.1
    unfold insF
    rw [i1, i2]
    by_cases hkl : k < l.length
    · have hki : (k : Int) < l.length := by omega
      have g := getD_map (f := aInts) hkl
      have hEk := hE k hkl
      have hd : (l.drop k).head? = some l[k] := by rw [List.head?_drop, List.getElem?_eq_getElem hkl]
      rw [hd]
      simp only [go_sem]
      repeat (first | ((with_reducible refine AWp.ofC ?_ ?_); exact rfl; simp only [go_sem, g, hki]) | ((with_reducible refine an ?_ ?_); exact Au))
      refine GCall.use (ab (decide (l[k] = c))) ?_ ?_
      · intro _; exact ⟨At, hEk.val.use ⟨rfl, rfl⟩⟩
      simp only [go_sem]
      repeat ((with_reducible refine an ?_ ?_); exact As)
      repeat (first | ((with_reducible refine AWp.ofC ?_ ?_); exact rfl; simp only [go_sem]) | ((with_reducible refine an ?_ ?_); exact Au))
      refine ⟨fun h3 => ?_, fun h3 => ?_⟩
      · repeat (first | ((with_reducible refine AWp.ofC ?_ ?_); exact rfl; simp only [go_sem]) | ((with_reducible refine an ?_ ?_); exact Au))
        refine ret_eq ?_; simp only [go_sem]
        rw [if_pos (by rw [h3])]
      · rw [if_neg (fun e => h3 (by simpa using e))]
        repeat (first | ((with_reducible refine AWp.ofC ?_ ?_); exact rfl; simp only [go_sem]) | ((with_reducible refine an ?_ ?_); exact Au))
        intro b0
        refine ⟨⟨by omega, by omega, by omega⟩, ⟨by rw [List.length_take]; omega, by rw [List.length_take]; omega⟩, fun b1 cap1 _ => ?_⟩
        repeat (first | ((with_reducible refine AWp.ofC ?_ ?_); exact rfl; simp only [go_sem]) | ((with_reducible refine an ?_ ?_); exact Au))
        refine ⟨⟨by rw [List.length_take]; omega, by rw [List.length_take]; omega⟩, fun b2 cap2 _ => ?_⟩
        repeat (first | ((with_reducible refine AWp.ofC ?_ ?_); exact rfl; simp only [go_sem]) | ((with_reducible refine an ?_ ?_); exact Au))
        have htd : (l.take k).length + 1 + (l.drop k).length = l.length + 1 := by rw [List.length_take, List.length_drop]; omega
        refine ⟨by simp, ⟨by omega, by omega⟩, fun b3 cap3 _ => ?_⟩
        repeat (first | ((with_reducible refine AWp.ofC ?_ ?_); exact rfl; simp only [go_sem]) | ((with_reducible refine an ?_ ?_); exact Au))
        refine ret_view [true] ?_; simp only [go_sem]
        have e : List.take ((List.take k l).length + 1) (List.map aInts (List.take k l) ++ [AV.sl 1 (List.map ai c)]) ++ List.map aInts (List.drop k l) = List.map aInts (List.take k l ++ c :: List.drop k l) := by
          rw [List.take_of_length_le (by simp)]; simp [aInts]
        rw [e]
        exact Vw.ofLs (if_pos rfl) (by rw [List.length_map, List.length_append, List.length_cons]; omega)
    · have hki : ¬ (k : Int) < l.length := by omega
      have hke : k = l.length := by omega
      subst hke
      rw [if_neg (by simp)]
      simp only [go_sem]
      repeat (first | ((with_reducible refine AWp.ofC ?_ ?_); exact rfl; simp only [go_sem, hki]) | ((with_reducible refine an ?_ ?_); exact Au))
      refine GCall.use (ab false) (fun g => by simp at g) ?_
      simp only [go_sem]
      repeat (first | ((with_reducible refine AWp.ofC ?_ ?_); exact rfl; simp only [go_sem, List.take_length, List.drop_length]) | ((with_reducible refine an ?_ ?_); exact Au))
      intro b0
      refine ⟨⟨by omega, by omega, by omega⟩, ⟨by omega, by omega⟩, fun b1 cap1 _ => ?_⟩
      repeat (first | ((with_reducible refine AWp.ofC ?_ ?_); exact rfl; simp only [go_sem]) | ((with_reducible refine an ?_ ?_); exact Au))
      intro b2 cap2 _
      repeat (first | ((with_reducible refine AWp.ofC ?_ ?_); exact rfl; simp only [go_sem]) | ((with_reducible refine an ?_ ?_); exact Au))
      have hdl : (List.drop l.length l).length = 0 := by rw [List.length_drop]; omega
      refine ⟨by simp, ⟨by omega, by omega⟩, fun b3 cap3 _ => ?_⟩
      repeat (first | ((with_reducible refine AWp.ofC ?_ ?_); exact rfl; simp only [go_sem]) | ((with_reducible refine an ?_ ?_); exact Au))
      refine ret_view [true] ?_; simp only [go_sem]
      have e : List.take (l.length + 1) (List.map aInts l ++ [AV.sl 1 (List.map ai c)]) ++ List.map aInts (List.drop l.length l) = List.map aInts (l ++ [c]) := by
        rw [List.take_of_length_le (by simp), List.drop_length]; simp [aInts]
      rw [e]
      exact Vw.ofLs (if_pos rfl) (by rw [List.length_map, List.length_append, List.length_singleton]; omega)
theorem Vw.ofLs' {L : AHeap} {b k len c : Nat} {t : TypeId} {xs xs' : List AV} {cap : Nat} (h : lk L b = some (.row t k xs cap)) (hl : len = xs.length) (hv : Vws L xs xs') : Vw L (.ls b k 0 len c) (.sl k xs') := by
  subst hl
  exact .ls h (by omega) (by rw [List.drop_zero, List.take_length]; exact hv.1) (by rw [List.drop_zero, List.take_length]; exact hv.2)
theorem moreT_succ {ps : List Pr} {l : List (List Int)} {i : Nat} (hi : i < l.length) : moreT ps (l.take (i + 1)) = insL (moreT ps (l.take i)) (nextL ps l[i]) := by
  unfold moreT
  rw [List.take_add_one, List.getElem?_eq_getElem hi, List.foldl_append]; rfl
theorem moreT_len {ps : List Pr} {B : Nat} : ∀ {l acc : List (List Int)}, (∀ c ∈ l, c.length ≤ B) → (l.foldl (fun acc c => insL acc (nextL ps c)) acc).length ≤ acc.length + l.length * B
  | [], acc, _ => by simp
  | c :: l, acc, h => by
    have h1 := moreT_len (ps := ps) (B := B) (l := l) (acc := insL acc (nextL ps c)) fun c hc => h c (List.mem_cons_of_mem _ hc)
    have h2 := insL_len (nextL ps c) acc
    have h3 := nextT_len ps c c.length
    have h4 := h c List.mem_cons_self
    have h5 : (nextL ps c).length = (nextT ps c c.length).length := rfl
    rw [List.foldl_cons, List.length_cons, Nat.add_mul]
    omega
theorem insL_succ {acc l : List (List Int)} {j : Nat} (hj : j < l.length) : insL acc (l.take (j + 1)) = insF (insL acc (l.take j)) l[j] := by
  unfold insL
  rw [List.take_add_one, List.getElem?_eq_getElem hj, List.foldl_append]; rfl
set_option maxHeartbeats 1000000 in
theorem ref23_List (ps : List Pr) (hs : Sm ps) (hv : validF ps = true) : PC Go.Proofs.Tryz.prog 27 [aTr ps] (if 5000 < (cutsF ps).length then .tup [.sl 1 [], ab false] else .tup [aRows (cutsF ps), ab true]) := by
  obtain ⟨hl1, hl8⟩ := valid_len hv
  have hps := hs.procs
  have hisF : ∀ c, isF ps c = true → Cb c ∧ c.length = ps.length := fun c h => ⟨isF_cb hs h, (isF_iff.1 h).1⟩
  have hlev : ∀ k c, c ∈ levF ps k → isF ps c = true := fun k c h => ((mem_levF hv k c).1 h).1
  have hnxt : ∀ c d, d ∈ nextL ps c → isF ps d = true := fun c d h => by obtain ⟨_, _, _, h1, rfl⟩ := mem_nextL.1 h; exact h1
  have hR : ∀ x : List (List Int), aRows x = .sl 1 (x.map aInts) := fun _ => rfl
  have hNx := fun c hc => ref23_Next ps hs hl1 c hc
  have hE : (if 5000 < (cutsF ps).length then AV.tup [.sl 1 [], ab false] else .tup [aRows (cutsF ps), ab true]) = if 5000 < (cutsF ps).length then AV.tup [.sl 1 [], ab false] else .tup [.sl 1 ((cutsF ps).map aInts), ab true] := rfl
  rw [hE]
  refine PC.enter 50 [.tmp 2, .tmp 3] [1] Go.Proofs.Tryz.func27 rfl rfl rfl rfl rfl (by simp) (AWp.of ?_); simp only [go_sem]
  repeat (first | ((with_reducible refine AWp.ofC ?_ ?_); exact rfl; simp only [go_sem]) | ((with_reducible refine an ?_ ?_); exact Au))
  intro b0 b1 g1
  have n1 : ¬ b1 = b0 := by omega
  have n2 : ¬ b0 = b1 := by omega
  refine AWp.view [true, true] [(4, .sl 1 ((levF ps 0).map aInts))] (LVw.refl _) ?_ ?_
  · intro q hq
    simp only [List.mem_singleton] at hq
    subst hq
    simp only [go_sem, pickT]
    have e : List.replicate ps.length (ai 0) = (List.replicate ps.length (0 : Int)).map ai := (List.map_replicate).symm
    rw [e]
    exact Vw.ofLs' (t := 42) (cap := 1) (if_pos rfl) rfl (Vws.cons (Vw.ofLs (t := 3) (cap := ps.length) (by simp only [lk, n2, if_false, if_true]) (by rw [List.length_map, List.length_replicate])) .nil)
  simp only [go_sem, pickF]
  repeat (first | ((with_reducible refine AWp.ofC ?_ ?_); exact rfl; simp only [go_sem]) | ((with_reducible refine an ?_ ?_); exact Au))
  refine AWp.seq (AWp.block (AWp.loopN [4, 5] [1] (fun m vs L => ∃ (k : Nat) (v : AV), vs = [.sl 1 ((levF ps k).map aInts), v] ∧ AppSt 42 1 ((cumF ps k).map aInts) v L ∧ (cumF ps k).length ≤ 5000 ∧ (levF ps k).length ≤ 40000 ∧ k ≤ off ps ps.length + 1 ∧ m = off ps ps.length + 1 - k) (off ps ps.length + 1) ?_ ?_))
  · exact ⟨0, anil, rfl, .nil, by simp [cumF], by simp [levF], by omega, rfl⟩
  rintro m vs L - ⟨k, v, rfl, hA, h5, hl4, hk, rfl⟩
  have hlevk := hlev k
  by_cases hlv : levF ps k = []
  · have hz : ¬ (0 : Int) < ((levF ps k).length : Int) := by rw [hlv]; simp
    have hcut : cutsF ps = cumF ps k := by
      unfold cutsF
      rw [show off ps ps.length + 1 = k + (off ps ps.length + 1 - k) by omega, cumF_end hlv]
    rw [hcut, if_neg (by omega)]
    generalize (cumF ps k).map aInts = ys at *
    rcases hA.inv with ⟨e1, rfl, rfl⟩ | ⟨bq, cap, rfl, rfl⟩
    · simp only [go_sem]
      repeat (first | ((with_reducible refine AWp.ofC ?_ ?_); exact rfl; simp only [go_sem, hz]) | ((with_reducible refine an ?_ ?_); exact Au))
      refine ret_view [] ?_; simp only [go_sem]
      rw [e1]
      exact .mkTup (Vws.cons (.nil 1) (Vws.refl _))
    · simp only [go_sem]
      repeat (first | ((with_reducible refine AWp.ofC ?_ ?_); exact rfl; simp only [go_sem, hz]) | ((with_reducible refine an ?_ ?_); exact Au))
      refine ret_view [true] ?_; simp only [go_sem]
      exact .mkTup (Vws.cons (Vw.ofLs (if_pos rfl) rfl) (Vws.refl _))
  · have hko : k ≤ off ps ps.length := by
      rcases Nat.lt_or_ge (off ps ps.length) k with h | h
      · exact absurd (levF_end hv h) hlv
      · exact h
    have hpos : 0 < (levF ps k).length := List.length_pos_iff.2 hlv
    have hne : ¬ (levF ps k).map aInts = [] := fun h => hlv (by simpa using h)
    have hposi : (0 : Int) < ((levF ps k).length : Int) := by omega
    have hcs := cumF_succ ps k
    have hcsl : (cumF ps (k + 1)).length = (cumF ps k).length + (levF ps k).length := by rw [hcs, List.length_append]
    have hmono := cumF_mono (ps := ps) (j := k + 1) (k := off ps ps.length + 1) (by omega)
    have hcutl : (cumF ps (off ps ps.length + 1)).length = (cutsF ps).length := rfl
    have hmore : (levF ps k).length ≤ 5000 → (levF ps (k + 1)).length ≤ 40000 := fun h => by
      have := moreT_len (ps := ps) (B := ps.length) (l := levF ps k) (acc := []) fun c hc => by rw [(hisF c (hlevk c hc)).2]; exact Nat.le_refl _
      have h2 : (levF ps k).length * ps.length ≤ 5000 * 8 := Nat.mul_le_mul h hl8
      have h3 : (levF ps (k + 1)).length = ((levF ps k).foldl (fun acc c => insL acc (nextL ps c)) []).length := rfl
      rw [h3]
      simp only [List.length_nil] at this
      omega
    have hys : (cumF ps (k + 1)).map aInts = (cumF ps k).map aInts ++ (levF ps k).map aInts := by rw [hcs, List.map_append]
    have hyl : ((cumF ps k).map aInts).length = (cumF ps k).length := List.length_map _
    simp only [go_sem]
    repeat ((with_reducible refine an ?_ ?_); exact As)
    refine AWp.of ?_; simp only [go_sem, hposi]
    repeat ((with_reducible refine an ?_ ?_); exact As)
    refine AWp.of ?_; simp only [go_sem]
    refine AWp.block (AWp.cut [1, 4, 5] (fun vs L => ∃ b cap, vs = [.rp 1 [aTr ps] 0 0, .sl 1 ((levF ps k).map aInts), .ls b 1 0 (cumF ps (k + 1)).length cap] ∧ L = [(b, .row 42 1 ((cumF ps (k + 1)).map aInts) cap)]) ?_ ?_)
    · rw [hys, hcsl]
      generalize hY : (cumF ps k).map aInts = ys at *
      rcases hA.inv with ⟨e1, rfl, rfl⟩ | ⟨bq, cap, rfl, rfl⟩
      · repeat (first | ((with_reducible refine AWp.ofC ?_ ?_); exact rfl; simp only [go_sem, hne]) | ((with_reducible refine an ?_ ?_); exact Au))
        intro b' cap' _
        refine ⟨_, List.Sublist.refl _, b', cap', ?_, by rw [e1]; rfl⟩
        rw [e1] at hyl
        rw [← hyl]; simp
      · repeat (first | ((with_reducible refine AWp.ofC ?_ ?_); exact rfl; simp only [go_sem]) | ((with_reducible refine an ?_ ?_); exact Au))
        intro b' cap' _
        refine ⟨_, List.Sublist.refl _, b', cap', ?_, ?_⟩
        · rw [hyl]
        · simp
    rintro vs L - ⟨b, cap, rfl, rfl⟩
    have hcl1 : ((cumF ps (k + 1)).map aInts).length = (cumF ps (k + 1)).length := List.length_map _
    generalize hCC : (cumF ps (k + 1)).map aInts = CC at *
    simp only [go_sem]
    by_cases h5k : 5000 < (cumF ps (k + 1)).length
    · have h5i : (5000 : Int) < ((cumF ps (k + 1)).length : Int) := by omega
      rw [if_pos (by omega)]
      repeat (first | ((with_reducible refine AWp.ofC ?_ ?_); exact rfl; simp only [go_sem, h5i]) | ((with_reducible refine an ?_ ?_); exact Au))
      refine ret_view [] ?_; simp only [go_sem]
      exact .mkTup (Vws.cons (.nil 1) (Vws.refl _))
    · have h5i : ¬ (5000 : Int) < ((cumF ps (k + 1)).length : Int) := by omega
      have hmore := hmore (by omega)
      repeat (first | ((with_reducible refine AWp.ofC ?_ ?_); exact rfl; simp only [go_sem, h5i]) | ((with_reducible refine an ?_ ?_); exact Au))
      refine AWp.view [false] [(6, .sl 1 ((moreT ps ((levF ps k).take 0)).map aInts))] (LVw.refl _) ?_ ?_
      · intro q hq
        simp only [List.mem_singleton] at hq
        subst hq
        simp only [go_sem, pickT]
        exact .nil 1
      simp only [go_sem, pickF]
      have hMl : ∀ i, (moreT ps ((levF ps k).take i)).length ≤ 40000 := fun i => by
        have := moreT_len (ps := ps) (B := ps.length) (l := (levF ps k).take i) (acc := []) fun c hc => by rw [(hisF c (hlevk c (List.mem_of_mem_take hc))).2]; exact Nat.le_refl _
        have h2 : ((levF ps k).take i).length * ps.length ≤ 5000 * 8 := Nat.mul_le_mul (by rw [List.length_take]; omega) hl8
        have h3 : (moreT ps ((levF ps k).take i)).length = (((levF ps k).take i).foldl (fun acc c => insL acc (nextL ps c)) []).length := rfl
        rw [h3]
        simp only [List.length_nil] at this
        omega
      have hMi : ∀ i, ∀ x ∈ moreT ps ((levF ps k).take i), isF ps x = true := fun i x hx => by
        unfold moreT at hx
        rcases mem_more.1 hx with h | ⟨c, _, h⟩
        · cases h
        · exact hnxt c x h
      have hMe : moreT ps ((levF ps k).take (levF ps k).length) = levF ps (k + 1) := by rw [List.take_length]; rfl
      refine AWp.block (AWp.count 7 (levF ps k).length [6] [1, 4, 5] (fun i vs L => L = [(b, .row 42 1 CC cap)] ∧ vs = [.sl 1 ((moreT ps ((levF ps k).take i)).map aInts)]) rfl rfl ⟨rfl, rfl⟩ ?_)
      rintro i vs L hi - ⟨rfl, rfl⟩
      by_cases hil : i < (levF ps k).length
      · have hii : (i : Int) < ((levF ps k).length : Int) := by omega
        have g := getD_map (f := aInts) hil
        have hci := hlevk _ (List.getElem_mem hil)
        have hNi := hNx _ hci
        have hms := moreT_succ (ps := ps) hil
        have hMl := hMl i
        have hMi := hMi i
        have hnxc := hnxt (levF ps k)[i]
        have hnl : (nextL ps (levF ps k)[i]).length ≤ 8 := by
          have := nextT_len ps (levF ps k)[i] (levF ps k)[i].length
          have h2 := (hisF _ hci).2
          have h3 : (nextL ps (levF ps k)[i]).length = (nextT ps (levF ps k)[i] (levF ps k)[i].length).length := rfl
          omega
        generalize moreT ps ((levF ps k).take i) = M at *
        generalize hM' : moreT ps ((levF ps k).take (i + 1)) = M' at *
        generalize hnx : nextL ps (levF ps k)[i] = nx at *
        generalize (levF ps k)[i] = c at *
        simp only [go_sem]
        repeat (first | ((with_reducible refine AWp.ofC ?_ ?_); exact rfl; simp only [go_sem, hii]) | ((with_reducible refine an ?_ ?_); exact Au))
        refine AWp.seq (AWp.block (AWp.seq ?_))
        refine AWp.mix mixed [0, 1, 2, 3, 4, 5, 6] .done (by kernel_rfl) ?_; simp only [go_sem, g]
        repeat ((with_reducible refine an ?_ ?_); exact As)
        refine GCall.use (.sl 1 (nx.map aInts)) (fun _ => ⟨At, hNi.val.use ⟨rfl, rfl⟩⟩) ?_
        simp only [go_sem]
        repeat (first | ((with_reducible refine AWp.ofC ?_ ?_); exact rfl; simp only [go_sem]) | ((with_reducible refine an ?_ ?_); exact Au))
        refine AWp.block (AWp.count 9 nx.length [6] [1, 4, 5, 7, 8] (fun j vs L => L = [(b, .row 42 1 CC cap)] ∧ vs = [.sl 1 ((insL M (nx.take j)).map aInts)]) rfl rfl ⟨rfl, rfl⟩ ?_)
        rintro j vs L hj - ⟨rfl, rfl⟩
        by_cases hjl : j < nx.length
        · have hji : (j : Int) < (nx.length : Int) := by omega
          have g2 := getD_map (f := aInts) hjl
          have hcj := hisF _ (hnxc _ (List.getElem_mem hjl))
          have hIns := ref23_insert (insL M (nx.take j)) nx[j] (by have := insL_len (nx.take j) M; rw [List.length_take] at this; omega) hcj.1 fun x hx => by
            have hx1 : isF ps x = true := by
              rcases mem_insL.1 hx with h | h
              · exact hMi x h
              · exact hnxc x (List.mem_of_mem_take h)
            have := hisF x hx1
            exact ⟨this.1, by rw [this.2, hcj.2]⟩
          have his := insL_succ (acc := M) hjl
          rw [← his] at hIns
          simp only [go_sem]
          repeat (first | ((with_reducible refine AWp.ofC ?_ ?_); exact rfl; simp only [go_sem, hji, g2]) | ((with_reducible refine an ?_ ?_); exact Au))
          repeat ((with_reducible refine an ?_ ?_); exact As)
          refine (hIns).val.use ?_; simp only [go_sem]
          repeat (first | ((with_reducible refine AWp.ofC ?_ ?_); exact rfl; simp only [go_sem]) | ((with_reducible refine an ?_ ?_); exact Au))
          exact ⟨_, List.Sublist.refl _, rfl⟩
        · have hji : ¬ (j : Int) < (nx.length : Int) := by omega
          have hje : j = nx.length := by omega
          subst hje
          rw [List.take_length, ← hms]
          simp only [go_sem]
          repeat (first | ((with_reducible refine AWp.ofC ?_ ?_); exact rfl; simp only [go_sem, hji]) | ((with_reducible refine an ?_ ?_); exact Au))
          exact ⟨_, List.Sublist.refl _, rfl, by rw [hM']⟩
      · have hii : ¬ (i : Int) < ((levF ps k).length : Int) := by omega
        have hie : i = (levF ps k).length := by omega
        subst hie
        rw [hMe]
        simp only [go_sem]
        repeat (first | ((with_reducible refine AWp.ofC ?_ ?_); exact rfl; simp only [go_sem, hii]) | ((with_reducible refine an ?_ ?_); exact Au))
        refine ⟨_, List.Sublist.refl _, _, ?_, k + 1, _, rfl, ?_, by omega, hmore, by omega, rfl⟩
        · omega
        · rw [hCC, ← hcl1]
          exact .row _ _ _
end Go.AL
end
section
/- How many steps an elimination has. Plain law. No condition. -/
namespace Go.AL
open Go Go.RowKit
set_option maxRecDepth 4000
theorem run_room {E : Elim} (_hE : SmE E) {now fin : Nat → Nat} {st : List Stp} {l : Bool} (h : RunR E now st fin l) (hI : InE E now) : st.length ≤ roomE E now + 1 := by
  induction h with
  | stop h => simp
  | lost h hl => simp
  | go h hl hr ih =>
    have := ih (inE_step hI hl)
    have := (step_inv hI h).2.2.2.2.2.2
    rw [List.length_cons]; omega
end Go.AL
end
section
/- The law ConjunctiveProves: the walk. No condition. -/
namespace Go.AL
open Go Go.RowKit
set_option maxRecDepth 4000
def longA (a : Ans) : Bool := decide ((100 : Int) < a.cut.length) || decide ((100 : Int) < a.cuts.length) || decide ((100 : Int) < a.run.length) || decide ((600 : Int) < a.spans.length)
theorem law37_answerIsLong (a : Ans) : PC Go.Proofs.Tryz.prog 25 [aAns a] (ab (longA a)) := by
  obtain ⟨m0, m1, m2, m3, m4, m5, m6, m7⟩ := a
  unfold aAns aSps
  refine PC.enter 25 [.tmp 2] [1] Go.Proofs.Tryz.func25 rfl rfl rfl rfl rfl (by simp) (AWp.of ?_); simp only [go_sem]
  repeat (first | ((with_reducible refine AWp.ofC ?_ ?_); exact rfl; simp only [go_sem]) | ((with_reducible refine an ?_ ?_); exact Au))
  refine ret_eq ?_; simp only [go_sem]
  rfl
theorem law37_Proves1 (ps : List Pr) (hs : Sm ps) (ts : List Pd) (hz : ∀ t ∈ ts, szF t ≤ 1000000) (htl : ts.length ≤ 1000000) (hf : conF ps ts = 0) (c : List Int) : PC Go.Proofs.Tryz.prog 28 [aInts c, .rp 1 [aTr ps] 0 0, .rp 1 [.sl 6 (ts.map aPd)] 0 0] (ab (satG ps (elimOf ps ts) c)) := by
  have h := ref37_Satisfies ps hs ts hz htl hf c
  generalize satG ps (elimOf ps ts) c = S at *
  refine PC.enter 9 [.tmp 4] [] Go.Proofs.Tryz.func28 rfl rfl rfl rfl rfl (by simp) (AWp.of ?_); simp only [go_sem]
  repeat (first | ((with_reducible refine AWp.ofC ?_ ?_); exact rfl; simp only [go_sem]) | ((with_reducible refine an ?_ ?_); exact Au))
  repeat ((with_reducible refine an ?_ ?_); exact As)
  refine (h).val.use ?_; simp only [go_sem]
  repeat (first | ((with_reducible refine AWp.ofC ?_ ?_); exact rfl; simp only [go_sem]) | ((with_reducible refine an ?_ ?_); exact Au))
  refine ret_eq ?_; simp only [go_sem]
theorem possG {ps : List Pr} (hv : validF ps = true) (E : Elim) : (cutsF ps).any (satG ps E) = true ↔ ∃ d, SatD ps E d := by
  rw [List.any_eq_true]
  constructor
  · rintro ⟨c, _, h⟩; exact ⟨c, satG_iff.1 h⟩
  · rintro ⟨d, hd⟩
    exact ⟨d, (mem_cutsF hv).2 (isF_iff.2 ⟨hd.len, hd.rng, hd.clo⟩), satG_iff.2 hd⟩
set_option maxHeartbeats 1000000 in
theorem law37_ConjunctiveProves (ps : List Pr) (ts : List Pd) (a : Ans) (htl : ts.length ≤ 9223372036854775807) : PC Go.Proofs.Tryz.prog 5 [aTr ps, .sl 6 (ts.map aPd), aAns a] (ab true) := by
  have haw := law37_awake
  have hbig := law37_big ps
  have hhu := law37_huge ts htl
  have hsm := @bigF_sm ps
  have hsize := fun h => law37_size ps h
  have hlong := law37_answerIsLong a
  have hCk := fun hs hz hl => conj_Check ps hs ts hz hl a
  obtain ⟨m0, m1, m2, m3, m4, m5, m6, m7⟩ := a
  unfold aAns aSps at *
  have hmz : manyF ts = false → ts.length ≤ 10 ∧ ∀ t ∈ ts, szF t ≤ 1000000 := fun h => ⟨(many_size h).1, fun t ht => by have := (many_size h).2 t ht; omega⟩
  have hfa := fun hs hm => ref37_Fault ps hs ts (hmz hm).2 (by have := (hmz hm).1; omega)
  refine PC.enter 77 [.tmp 6] [3, 4, 5, 10] Go.Proofs.Tryz.func5 rfl rfl rfl rfl rfl (by simp) (AWp.of ?_); simp only [go_sem]
  repeat (first | ((with_reducible refine AWp.ofC ?_ ?_); exact rfl; simp only [go_sem]) | ((with_reducible refine an ?_ ?_); exact Au))
  repeat ((with_reducible refine an ?_ ?_); exact As)
  refine (haw).val.use ?_; simp only [go_sem]
  repeat (first | ((with_reducible refine AWp.ofC ?_ ?_); exact rfl; simp only [go_sem]) | ((with_reducible refine an ?_ ?_); exact Au))
  repeat ((with_reducible refine an ?_ ?_); exact As)
  refine (hbig).val.use ?_; simp only [go_sem]
  repeat ((with_reducible refine an ?_ ?_); exact As)
  refine GCall.use (ab (manyF ts)) (fun _ => ⟨At, (hhu).val.use ⟨rfl, rfl⟩⟩) ?_; simp only [go_sem]
  repeat ((with_reducible refine an ?_ ?_); exact As)
  refine GCall.use (ai (off ps ps.length)) ?_ ?_
  · intro g; exact ⟨At, (hsize (hsm g.1)).val.use ⟨rfl, rfl⟩⟩
  simp only [go_sem]
  repeat ((with_reducible refine an ?_ ?_); exact As)
  refine GCall.use (ab (longA ⟨m0, m1, m2, m3, m4, m5, m6, m7⟩)) (fun _ => ⟨At, hlong.val.use ⟨rfl, rfl⟩⟩) ?_
  simp only [go_sem]
  repeat ((with_reducible refine an ?_ ?_); exact As)
  refine GCall.use (ai (conF ps ts)) ?_ ?_
  · intro g; exact ⟨At, (hfa (hsm g.1.1.1) g.1.1.2).val.use ⟨rfl, rfl⟩⟩
  simp only [go_sem]
  repeat ((with_reducible refine an ?_ ?_); exact As)
  repeat (first | ((with_reducible refine AWp.ofC ?_ ?_); exact rfl; simp only [go_sem]) | ((with_reducible refine an ?_ ?_); exact Au))
  refine ⟨fun h1 => ?_, fun h1 => ?_⟩
  · repeat (first | ((with_reducible refine AWp.ofC ?_ ?_); exact rfl; simp only [go_sem]) | ((with_reducible refine an ?_ ?_); exact Au))
    refine ret_eq ?_; simp only [go_sem]
  intro h2 h3 h4 h5
  have hs := hsm h1
  obtain ⟨hl10, hz⟩ := hmz h2
  have hf : conF ps ts = 0 := h5
  obtain ⟨hv, _, _⟩ := conF_inv hf
  have hps := hs.procs
  have hL := ref23_List ps hs hv
  have hP := conj_Possibly ps hs ts hz (by omega)
  have hCa := hCk hs hz (by omega) (by
    unfold longA at h4
    simp only [Bool.or_eq_false_iff, decide_eq_false_iff_not] at h4
    have : ¬ (600 : Int) < m6.length := h4.2
    show m6.length ≤ _
    omega)
  have hroom : (stepsF (elimOf ps ts)).length ≤ 10000010000000 := by
    have hE := elim_sm hs ts
    have h := run_room hE (run_spec (elimOf ps ts)) (inE_zero _)
    have h2 : roomE (elimOf ps ts) (fun _ => 0) ≤ (elimOf ps ts).n * 1000001 := totS_le _ fun q hq => by have := hE.top q; omega
    have h3 : (elimOf ps ts).n * 1000001 ≤ 1000000 * 1000001 := Nat.mul_le_mul_right _ (by have := hE.n; omega)
    omega
  have hAs : (ansOf (elimOf ps ts)).spans.length ≤ 9223372036854775806 := by
    unfold ansOf
    split
    · simp; omega
    · simp
  have hCo := conj_Check ps hs ts hz (by omega) (ansOf (elimOf ps ts)) hAs
  have hco := check_own hv hf
  rw [hco] at hCo
  have hpo := possG hv (elimOf ps ts)
  have hho : (ansOf (elimOf ps ts)).holds = (cutsF ps).any (satG ps (elimOf ps ts)) := by
    rw [Bool.eq_iff_iff, hpo]; exact check_sound hv hco
  have hsa : checkG ps ts ⟨m0, m1, m2, m3, m4, m5, m6, m7⟩ = true → m1 = (cutsF ps).any (satG ps (elimOf ps ts)) := fun h => by
    rw [Bool.eq_iff_iff, hpo]; exact check_sound hv h
  have hcl := fun hl => rows_containsFunc (cutsF ps) hl (.clo 28 [.rp 1 [aTr ps] 0 0, .rp 1 [.sl 6 (ts.map aPd)] 0 0]) rfl (satG ps (elimOf ps ts)) fun c _ => (law37_Proves1 ps hs ts hz (by omega) hf c).clo
  unfold aPossR at hP
  rw [if_pos hf] at hP
  clear haw hbig hhu hsm hsize hlong hmz hfa hCk hpo hco
  generalize checkG ps ts ⟨m0, m1, m2, m3, m4, m5, m6, m7⟩ = CA at *
  generalize (cutsF ps).any (satG ps (elimOf ps ts)) = PO at *
  generalize ansOf (elimOf ps ts) = A at *
  obtain ⟨n0, n1, n2, n3, n4, n5, n6, n7⟩ := A
  unfold aAns aSps at *
  simp only at hho hP hCo
  subst hho
  by_cases h5000 : 5000 < (cutsF ps).length
  · rw [if_pos h5000] at hL
    repeat (first | ((with_reducible refine AWp.ofC ?_ ?_); exact rfl; simp only [go_sem]) | ((with_reducible refine an ?_ ?_); exact Au))
    repeat ((with_reducible refine an ?_ ?_); exact As)
    refine (hL).val.use ?_; simp only [go_sem]
    repeat (first | ((with_reducible refine AWp.ofC ?_ ?_); exact rfl; simp only [go_sem]) | ((with_reducible refine an ?_ ?_); exact Au))
    refine ret_eq ?_; simp only [go_sem]
  · rw [if_neg h5000] at hL
    have hcl := hcl (by omega)
    repeat (first | ((with_reducible refine AWp.ofC ?_ ?_); exact rfl; simp only [go_sem]) | ((with_reducible refine an ?_ ?_); exact Au))
    repeat ((with_reducible refine an ?_ ?_); exact As)
    refine (hL).val.use ?_; simp only [go_sem]
    repeat (first | ((with_reducible refine AWp.ofC ?_ ?_); exact rfl; simp only [go_sem]) | ((with_reducible refine an ?_ ?_); exact Au))
    repeat ((with_reducible refine an ?_ ?_); exact As)
    refine (hcl).val.use ?_; simp only [go_sem]
    repeat (first | ((with_reducible refine AWp.ofC ?_ ?_); exact rfl; simp only [go_sem]) | ((with_reducible refine an ?_ ?_); exact Au))
    repeat ((with_reducible refine an ?_ ?_); exact As)
    refine (hP).val.use ?_; simp only [go_sem]
    intro b10
    repeat (first | ((with_reducible refine AWp.ofC ?_ ?_); exact rfl; simp only [go_sem]) | ((with_reducible refine an ?_ ?_); exact Au))
    repeat ((with_reducible refine an ?_ ?_); exact As)
    refine GCall.use (ab true) (fun _ => ⟨At, (hCo).val.use ⟨rfl, rfl⟩⟩) ?_; simp only [go_sem]
    repeat ((with_reducible refine an ?_ ?_); exact As)
    repeat (first | ((with_reducible refine AWp.ofC ?_ ?_); exact rfl; simp only [go_sem]) | ((with_reducible refine an ?_ ?_); exact Au))
    repeat ((with_reducible refine an ?_ ?_); exact As)
    refine (hCa).val.use ?_; simp only [go_sem]
    repeat (first | ((with_reducible refine AWp.ofC ?_ ?_); exact rfl; simp only [go_sem]) | ((with_reducible refine an ?_ ?_); exact Au))
    refine ret_eq ?_; simp only [go_sem]
    have e : (!CA || decide (m1 = n1)) = true := by
      cases CA with
      | false => rfl
      | true => rw [hsa rfl]; simp
    rw [e]
end Go.AL
end
section
/- What is read of arguments that are answers. No condition. -/
namespace Go.AL
open Go Go.RowKit
set_option maxRecDepth 100000
section
variable {H : Type} {enc : TypeId × Value → H} {W : World}
theorem Rd.bool {P : Program} {t : TypeId} (ht : P.underlying t = some .bool) : Rd enc P W t 1 ab (fun _ => True) := by
  intro fuel cs x h
  obtain ⟨n, rfl, _⟩ := DataW.trod_bool ht h
  refine ⟨n, trivial, ⟨rfl, rfl⟩, rfl, fun i c u h1 h2 => ?_⟩
  cases i with
  | zero => cases h1; cases h2; exact .v _
  | succ i => cases h2
theorem rdSpan : Rd enc Go.Proofs.Tryz.prog W 77 3 aSp (fun _ => True) :=
  (Rd.struct (ts := [3, 3, 3]) Go.Proofs.Tryz.underlying77 rfl rfl (by kernel_rfl) (by kernel_rfl)
    (.cons (Rd.int Go.Proofs.Tryz.underlying3) (fun _ => ⟨rfl, rfl⟩) (.cons (Rd.int Go.Proofs.Tryz.underlying3) (fun _ => ⟨rfl, rfl⟩) (.cons (Rd.int Go.Proofs.Tryz.underlying3) (fun _ => ⟨rfl, rfl⟩) .nil)))).map (fun (y : Int × Int × Int × Unit) => (y.1, y.2.1, y.2.2.1)) (fun _ => rfl) (fun _ _ => trivial)
theorem rdSpans : Rd enc Go.Proofs.Tryz.prog W 31 1 aSps (fun _ => True) :=
  (Rd.slice Go.Proofs.Tryz.underlying31 (by kernel_rfl : Program.cellsOf Go.Proofs.Tryz.prog 77 = 3) (by decide) rdSpan).map id (fun _ => rfl) (fun _ _ => trivial)
theorem rdAns : Rd enc Go.Proofs.Tryz.prog W 52 8 aAns (fun _ => True) :=
  (Rd.struct (ts := [3, 4, 3, 42, 39, 39, 31, 3]) Go.Proofs.Tryz.underlying52 rfl rfl (by kernel_rfl) (by kernel_rfl)
    (.cons (Rd.int Go.Proofs.Tryz.underlying3) (fun _ => ⟨rfl, rfl⟩) (.cons (Rd.bool Go.Proofs.Tryz.underlying4) (fun _ => ⟨rfl, rfl⟩) (.cons (Rd.int Go.Proofs.Tryz.underlying3) (fun _ => ⟨rfl, rfl⟩)
      (.cons rdInts (fun _ => ⟨rfl, rfl⟩) (.cons rdRows (fun _ => ⟨rfl, rfl⟩) (.cons rdRows (fun _ => ⟨rfl, rfl⟩) (.cons rdSpans (fun _ => ⟨rfl, rfl⟩) (.cons (Rd.int Go.Proofs.Tryz.underlying3) (fun _ => ⟨rfl, rfl⟩) .nil))))))))).map
    (fun (y : Int × Bool × Int × List Int × List (List Int) × List (List Int) × List (Int × Int × Int) × Int × Unit) => ⟨y.1, y.2.1, y.2.2.1, y.2.2.2.1, y.2.2.2.2.1, y.2.2.2.2.2.1, y.2.2.2.2.2.2.1, y.2.2.2.2.2.2.2.1⟩) (fun _ => rfl) (fun _ _ => trivial)
end
end Go.AL
end
