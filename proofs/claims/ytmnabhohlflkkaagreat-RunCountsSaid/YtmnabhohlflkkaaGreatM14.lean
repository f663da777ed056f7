/- Texts of this claim's proof: WSl+1, WCu+1, WQb+1, WQc+1, WQd+1. No condition. -/
import Derived.Test.YtmnabhohlflkkaaGreatM0
import Derived.Test.YtmnabhohlflkkaaGreatM1
import Derived.Test.YtmnabhohlflkkaaGreatM2
import Derived.Test.YtmnabhohlflkkaaGreatM3
import Derived.Test.YtmnabhohlflkkaaGreatM4
import Derived.Test.YtmnabhohlflkkaaGreatM5
import Derived.Test.YtmnabhohlflkkaaGreatM6
import Derived.Test.YtmnabhohlflkkaaGreatM7
import Derived.Test.YtmnabhohlflkkaaGreatM8
import Derived.Test.YtmnabhohlflkkaaGreatM9
import Derived.Test.YtmnabhohlflkkaaGreatM10
import Derived.Test.YtmnabhohlflkkaaGreatM11
import Derived.Test.YtmnabhohlflkkaaGreatM12
import Derived.Test.YtmnabhohlflkkaaGreatM13
section
namespace Go.AL
open Go Go.RowKit
set_option maxRecDepth 4000
theorem ints_indexFunc (l : List Int) (hl : l.length ≤ 1000000) (g : AV) (hgf : fo g = (True, g)) (p : Int → Bool) (hg : ∀ x ∈ l, PV Go.Proofs.Tryz.prog g [ai x] (ab (p x))) :
    PC Go.Proofs.Tryz.prog 107 [aInts l, g] (ai (match l.findIdx? p with | some i => (i : Int) | none => -1)) := by
  refine PC.enter 19 [.tmp 4] [] Go.Proofs.Tryz.func107 rfl rfl rfl rfl rfl (by simp) (AWp.of ?_); simp only [go_sem]
  repeat ((with_reducible refine an ?_ ?_); focus exact As)
  refine AWp.of ?_; simp only [go_sem]
  refine AWp.range' l.length [] [0, 1, 7] (fun k vs L => L = [] ∧ ∀ i (h : i < l.length), i < k → p l[i] = false) (by omega) rfl rfl rfl ⟨rfl, by omega⟩ ?_ ?_
  · rintro k vs L' hk hvs ⟨rfl, hI⟩
    simp only [go_sem]
    repeat ((with_reducible refine an ?_ ?_); focus exact As)
    refine AWp.of ?_; simp only [go_sem]
    have hgk := hg l[k] (List.getElem_mem hk)
    try simp only [go_sem, ai] at hgk
    repeat ((with_reducible refine an ?_ ?_); focus exact As)
    refine AWp.of ?_; simp only [go_sem, getD_map hk, hgf, ai]
    refine ⟨⟨by omega, by omega⟩, hk, hgk.use (AWp.of ?_)⟩; simp only [go_sem]
    refine ⟨fun ht => ?_, fun hf => ?_⟩
    · repeat ((with_reducible refine an ?_ ?_); focus exact As)
      refine AWp.of ?_; simp only [go_sem]
      refine ret_eq ?_; simp only [go_sem]
      have : l.findIdx? p = some k := by rw [List.findIdx?_eq_some_iff_getElem]; exact ⟨hk, ht, fun j hj => by simpa using hI j (by omega) hj⟩
      rw [this]
    · refine ⟨[], List.Sublist.refl _, rfl, fun i h hi => ?_⟩
      by_cases e : i = k
      · subst e; exact hf
      · exact hI i h (by omega)
  · rintro vs L' hvs ⟨rfl, hI⟩
    simp only [go_sem]
    repeat ((with_reducible refine an ?_ ?_); focus exact As)
    refine AWp.of ?_; simp only [go_sem]
    repeat ((with_reducible refine an ?_ ?_); focus exact As)
    refine AWp.of ?_; simp only [go_sem]
    refine ret_eq ?_; simp only [go_sem]
    have : l.findIdx? p = none := by rw [List.findIdx?_eq_none_iff]; intro x hx; obtain ⟨i, hi, rfl⟩ := List.getElem_of_mem hx; exact hI i hi hi
    rw [this]
end Go.AL
end
section
namespace Go.AL
open Go Go.RowKit
set_option maxRecDepth 4000
theorem cb_take {c : List Int} (h : Cb c) (k : Nat) : 0 ≤ (c.take k).sum ∧ (c.take k).sum ≤ 1000000 * k := by
  have h2 := h.2
  clear h
  induction c generalizing k with
  | nil => rw [List.take_nil, List.sum_nil]; omega
  | cons a c ih =>
    cases k with
    | zero => simp
    | succ k =>
      have h0 := h2 a List.mem_cons_self
      have := ih k fun z hz => h2 z (List.mem_cons_of_mem _ hz)
      rw [List.take_succ_cons, List.sum_cons]; omega
theorem take_sum {c : List Int} {k : Nat} (hk : k < c.length) : (c.take (k + 1)).sum = (c.take k).sum + c[k] := by
  rw [List.take_add_one, List.getElem?_eq_getElem hk, List.sum_append]; simp
theorem ref23_Size (c : List Int) (hc : Cb c) : PC Go.Proofs.Tryz.prog 67 [aInts c] (ai c.sum) := by
  have hl := hc.1
  refine PC.enter 18 [.tmp 2] [] Go.Proofs.Tryz.func67 rfl rfl rfl rfl rfl (by simp) (AWp.of ?_); simp only [go_sem]
  repeat (first | ((with_reducible refine AWp.ofC ?_ ?_); (focus exact rfl); simp only [go_sem]) | ((with_reducible refine an ?_ ?_); focus exact Au))
  refine AWp.block (AWp.count 4 c.length [3] [0] (fun k vs L => L = [] ∧ vs = [ai (c.take k).sum]) rfl rfl ⟨rfl, rfl⟩ ?_)
  rintro k vs L hk - ⟨rfl, rfl⟩
  have htk := cb_take hc k
  simp only [go_sem]
  repeat (first | ((with_reducible refine AWp.ofC ?_ ?_); (focus exact rfl); simp only [go_sem]) | ((with_reducible refine an ?_ ?_); focus exact Au))
  refine ⟨fun h1 => ?_, fun h1 => ?_⟩
  · have hkc : k < c.length := by omega
    have hg := getD_map (f := ai) hkc
    have hz := hc.2 _ (List.getElem_mem hkc)
    have ht := take_sum hkc
    repeat (first | ((with_reducible refine AWp.ofC ?_ ?_); (focus exact rfl); simp only [go_sem, hg]) | ((with_reducible refine an ?_ ?_); focus exact Au))
    repeat ((with_reducible refine an ?_ ?_); focus exact As)
    exact ⟨_, List.Sublist.refl _, rfl, by rw [ht]⟩
  · have : k = c.length := by omega
    subst this
    rw [List.take_length]
    repeat (first | ((with_reducible refine AWp.ofC ?_ ?_); (focus exact rfl); simp only [go_sem]) | ((with_reducible refine an ?_ ?_); focus exact Au))
    refine ret_eq ?_; simp only [go_sem]
theorem lexF_hit : ∀ {a b : List Int} {k : Nat} (ha : k < a.length) (hb : k < b.length), a[k] = b[k] → lexF (a.drop k) (b.drop k) = lexF (a.drop (k + 1)) (b.drop (k + 1)) := fun {a b k} ha hb h => by
  rw [List.drop_eq_getElem_cons ha, List.drop_eq_getElem_cons hb, lexF, if_pos h]
theorem lexF_no {a b : List Int} {k : Nat} (ha : k < a.length) (hb : k < b.length) (h : ¬ a[k] = b[k]) : lexF (a.drop k) (b.drop k) = decide (a[k] < b[k]) := by
  rw [List.drop_eq_getElem_cons ha, List.drop_eq_getElem_cons hb, lexF, if_neg h]
theorem ref23_Before (a b : List Int) (ha : Cb a) (hb : Cb b) (hl : a.length = b.length) : PC Go.Proofs.Tryz.prog 94 [aInts a, aInts b] (ab (befF a b)) := by
  have h1 := ref23_Size a ha
  have h2 := ref23_Size b hb
  have hal := ha.1
  unfold befF
  by_cases hs : a.sum = b.sum
  · rw [if_pos hs]
    refine PC.enter 40 [.tmp 4] [] Go.Proofs.Tryz.func94 rfl rfl rfl rfl rfl (by simp) (AWp.of ?_); simp only [go_sem]
    repeat (first | ((with_reducible refine AWp.ofC ?_ ?_); (focus exact rfl); simp only [go_sem]) | ((with_reducible refine an ?_ ?_); focus exact Au))
    repeat ((with_reducible refine an ?_ ?_); focus exact As)
    refine (h1).val.use ?_; simp only [go_sem]
    repeat ((with_reducible refine an ?_ ?_); focus exact As)
    refine (h2).val.use ?_; simp only [go_sem]
    repeat (first | ((with_reducible refine AWp.ofC ?_ ?_); (focus exact rfl); simp only [go_sem, hs]) | ((with_reducible refine an ?_ ?_); focus exact Au))
    refine AWp.block (AWp.count 5 a.length [] [0, 1] (fun k vs L => L = [] ∧ lexF a b = lexF (a.drop k) (b.drop k)) rfl rfl ⟨rfl, rfl⟩ ?_)
    rintro k vs L hk - ⟨rfl, hI⟩
    simp only [go_sem]
    repeat (first | ((with_reducible refine AWp.ofC ?_ ?_); (focus exact rfl); simp only [go_sem]) | ((with_reducible refine an ?_ ?_); focus exact Au))
    refine ⟨fun h3 => ?_, fun h3 => ?_⟩
    · have hka : k < a.length := by omega
      have hkb : k < b.length := by omega
      have ga := getD_map (f := ai) hka
      have gb := getD_map (f := ai) hkb
      refine AWp.seq (AWp.block (AWp.seq ?_))
      refine AWp.drawn mixed 9 (by kernel_rfl) ?_; simp only [go_sem, ga, gb]
      repeat ((with_reducible refine an ?_ ?_); focus exact As)
      repeat (first | ((with_reducible refine AWp.ofC ?_ ?_); (focus exact rfl); simp only [go_sem]) | ((with_reducible refine an ?_ ?_); focus exact Au))
      refine ⟨fun h4 => ?_, fun h4 => ?_⟩
      · refine AWp.drawn mixed 9 (by kernel_rfl) ?_; simp only [go_sem, ga, gb]
        repeat (first | ((with_reducible refine AWp.ofC ?_ ?_); (focus exact rfl); simp only [go_sem]) | ((with_reducible refine an ?_ ?_); focus exact Au))
        refine ret_eq ?_; simp only [go_sem]
        rw [hI, lexF_no hka hkb h4]
      · repeat (first | ((with_reducible refine AWp.ofC ?_ ?_); (focus exact rfl); simp only [go_sem]) | ((with_reducible refine an ?_ ?_); focus exact Au))
        exact ⟨_, List.Sublist.refl _, rfl, by rw [hI, lexF_hit hka hkb (by omega)]⟩
    · have : k = a.length := by omega
      subst this
      repeat (first | ((with_reducible refine AWp.ofC ?_ ?_); (focus exact rfl); simp only [go_sem]) | ((with_reducible refine an ?_ ?_); focus exact Au))
      refine ret_eq ?_; simp only [go_sem]
      rw [hI, List.drop_length]; rfl
  · rw [if_neg hs]
    refine PC.enter 40 [.tmp 4] [] Go.Proofs.Tryz.func94 rfl rfl rfl rfl rfl (by simp) (AWp.of ?_); simp only [go_sem]
    repeat (first | ((with_reducible refine AWp.ofC ?_ ?_); (focus exact rfl); simp only [go_sem]) | ((with_reducible refine an ?_ ?_); focus exact Au))
    repeat ((with_reducible refine an ?_ ?_); focus exact As)
    refine (h1).val.use ?_; simp only [go_sem]
    repeat ((with_reducible refine an ?_ ?_); focus exact As)
    refine (h2).val.use ?_; simp only [go_sem]
    repeat (first | ((with_reducible refine AWp.ofC ?_ ?_); (focus exact rfl); simp only [go_sem, hs]) | ((with_reducible refine an ?_ ?_); focus exact Au))
    repeat ((with_reducible refine an ?_ ?_); focus exact As)
    refine (h1).val.use ?_; simp only [go_sem]
    repeat ((with_reducible refine an ?_ ?_); focus exact As)
    refine (h2).val.use ?_; simp only [go_sem]
    repeat (first | ((with_reducible refine AWp.ofC ?_ ?_); (focus exact rfl); simp only [go_sem]) | ((with_reducible refine an ?_ ?_); focus exact Au))
    refine ret_eq ?_; simp only [go_sem]
theorem ref23_Step (c : List Int) (hc : Cb c) (p : Nat) (hp : p < c.length) : PC Go.Proofs.Tryz.prog 93 [aInts c, ai p] (aInts (stpC c p)) := by
  have hl := hc.1
  have hz := hc.2 _ (List.getElem_mem hp)
  have hg := getD_map (f := ai) hp
  have hst : (c.map ai).set p (ai (c[p] + 1)) = (stpC c p).map ai := by unfold stpC; rw [cAt_nat hp, List.map_set]
  have hsl : (stpC c p).length = c.length := by unfold stpC; rw [List.length_set]
  refine PC.enter 18 [.tmp 4] [] Go.Proofs.Tryz.func93 rfl rfl rfl rfl rfl (by simp) (AWp.of ?_); simp only [go_sem]
  repeat (first | ((with_reducible refine AWp.ofC ?_ ?_); (focus exact rfl); simp only [go_sem]) | ((with_reducible refine an ?_ ?_); focus exact Au))
  intro b0
  refine ⟨⟨by omega, by omega⟩, fun b cap hcap => ?_⟩
  repeat (first | ((with_reducible refine AWp.ofC ?_ ?_); (focus exact rfl); simp only [go_sem, hg]) | ((with_reducible refine an ?_ ?_); focus exact Au))
  repeat ((with_reducible refine an ?_ ?_); focus exact As)
  rw [hst]
  refine ret_view [true] ?_; simp only [go_sem]
  exact Vw.ofLs (if_pos rfl) (by rw [List.length_map, hsl])
theorem ref23_Next (ps : List Pr) (hs : Sm ps) (hn : 1 ≤ ps.length) (c : List Int) (hc : isF ps c = true) : PC Go.Proofs.Tryz.prog 54 [aTr ps, aInts c] (aRows (nextL ps c)) := by
  have hcb := isF_cb hs hc
  obtain ⟨hl, hr, _⟩ := isF_iff.1 hc
  have hps := hs.procs
  have hI := fun d => ref23_Is ps hs hn d
  have hS := fun p hp => ref23_Step c hcb p hp
  have hlen := fun k => nextT_len ps c k
  have hR : aRows (nextL ps c) = .sl 1 ((nextT ps c c.length).map aInts) := rfl
  rw [hR]
  refine PC.enter 39 [.tmp 4] [2, 36] Go.Proofs.Tryz.func54 rfl rfl rfl rfl rfl (by simp) (AWp.of ?_); simp only [go_sem]
  repeat (first | ((with_reducible refine AWp.ofC ?_ ?_); (focus exact rfl); simp only [go_sem]) | ((with_reducible refine an ?_ ?_); focus exact Au))
  refine AWp.block (AWp.count 6 c.length [5] [1, 2] (fun k vs L => ∃ v, vs = [v] ∧ AppSt 42 1 ((nextT ps c k).map aInts) v L) rfl rfl ⟨anil, rfl, .nil⟩ ?_)
  rintro k vs L hk - ⟨v, rfl, hA⟩
  have hfo := hA.fo
  have hyl : ((nextT ps c k).map aInts).length ≤ k := by rw [List.length_map]; exact hlen k
  simp only [go_sem]
  by_cases hkn : k < c.length
  · have hki : (k : Int) < c.length := by omega
    have hkp : k < ps.length := by omega
    have gc := getD_map (f := ai) hkn
    have gp := getD_map (f := aPr) hkp
    have hel := hs.evs _ (List.getElem_mem hkp)
    have hSk := hS k hkn
    have hIk := hI (stpC c k)
    have hsu := nextT_succ ps c k
    have hnx : nx1 ps c k = if c[k] < ps[k].evs.length ∧ isF ps (stpC c k) = true then [stpC c k] else [] := by unfold nx1; rw [cAt_nat hkn, nev_get hkp]
    rw [hnx] at hsu
    have hbd := hcb.2 _ (List.getElem_mem hkn)
    generalize isF ps (stpC c k) = B at *
    generalize stpC c k = s at *
    repeat (first | ((with_reducible refine AWp.ofC ?_ ?_); (focus exact rfl); simp only [go_sem, hki]) | ((with_reducible refine an ?_ ?_); focus exact Au))
    refine AWp.seq (AWp.block (AWp.seq ?_))
    repeat (first | (with_reducible refine AWp.seq ?_) | (with_reducible refine AWp.block ?_))
    refine AWp.mix mixed [0, 1, 2, 3, 4, 5, 6, 7, 8, 9, 10, 11, 12, 13, 14, 15, 16, 17, 18] .done (by kernel_rfl) ?_; simp only [go_sem, gc, gp]
    repeat ((with_reducible refine an ?_ ?_); focus exact As)
    refine GCall.use (aInts s) ?_ ?_
    · intro _; exact ⟨At, hSk.val.use ⟨rfl, rfl⟩⟩
    simp only [go_sem]
    repeat ((with_reducible refine an ?_ ?_); focus exact As)
    refine GCall.use (ab B) ?_ ?_
    · intro _; exact ⟨At, hIk.val.use ⟨rfl, rfl⟩⟩
    simp only [go_sem]
    repeat ((with_reducible refine an ?_ ?_); focus exact As)
    repeat (first | ((with_reducible refine AWp.ofC ?_ ?_); (focus exact rfl); simp only [go_sem]) | ((with_reducible refine an ?_ ?_); focus exact Au))
    refine ⟨fun h1 h2 => ?_, fun h1 => ?_⟩
    · rw [if_pos ⟨h1, h2⟩] at hsu
      generalize hys : (nextT ps c k).map aInts = ys at *
      rcases hA.inv with ⟨e1, rfl, rfl⟩ | ⟨b, cap, rfl, rfl⟩
      · repeat (first | ((with_reducible refine AWp.ofC ?_ ?_); (focus exact rfl); simp only [go_sem]) | ((with_reducible refine an ?_ ?_); focus exact Au))
        repeat ((with_reducible refine an ?_ ?_); focus exact As)
        refine (hSk).val.use ?_; simp only [go_sem]
        intro b' cap' _
        repeat (first | ((with_reducible refine AWp.ofC ?_ ?_); (focus exact rfl); simp only [go_sem]) | ((with_reducible refine an ?_ ?_); focus exact Au))
        refine ⟨_, List.Sublist.refl _, _, rfl, ?_⟩
        rw [hsu, List.map_append, hys, e1]
        exact .row _ _ _
      · repeat (first | ((with_reducible refine AWp.ofC ?_ ?_); (focus exact rfl); simp only [go_sem]) | ((with_reducible refine an ?_ ?_); focus exact Au))
        repeat ((with_reducible refine an ?_ ?_); focus exact As)
        refine (hSk).val.use ?_; simp only [go_sem]
        refine ⟨⟨by omega, by omega⟩, fun b' cap' _ => ?_⟩
        repeat (first | ((with_reducible refine AWp.ofC ?_ ?_); (focus exact rfl); simp only [go_sem]) | ((with_reducible refine an ?_ ?_); focus exact Au))
        refine ⟨_, List.Sublist.refl _, _, rfl, ?_⟩
        rw [hsu, List.map_append, hys]
        have := AppSt.row (t := 42) (k := 1) b' (ys ++ [aInts s]) cap'
        simpa [aInts] using this
    · rw [if_neg (fun h => by have := h1 h.1; rw [h.2] at this; cases this), List.append_nil] at hsu
      repeat (first | ((with_reducible refine AWp.ofC ?_ ?_); (focus exact rfl); simp only [go_sem]) | ((with_reducible refine an ?_ ?_); focus exact Au))
      refine ⟨_, List.Sublist.refl _, _, rfl, ?_⟩
      rw [hsu]; exact hA
  · have hki : ¬ (k : Int) < c.length := by omega
    have hke : k = c.length := by omega
    subst hke
    rcases hA.inv with ⟨e1, rfl, rfl⟩ | ⟨b, cap, rfl, rfl⟩
    · repeat (first | ((with_reducible refine AWp.ofC ?_ ?_); (focus exact rfl); simp only [go_sem, hki]) | ((with_reducible refine an ?_ ?_); focus exact Au))
      refine ret_view [] ?_; simp only [go_sem]
      rw [e1]
      exact .nil 1
    · repeat (first | ((with_reducible refine AWp.ofC ?_ ?_); (focus exact rfl); simp only [go_sem, hki]) | ((with_reducible refine an ?_ ?_); focus exact Au))
      refine ret_view [true] ?_; simp only [go_sem]
      exact Vw.ofLs (if_pos rfl) (by rw [List.length_map])
theorem ref15_SameList (a b : List Int) (ha : a.length ≤ 1000000) : PC Go.Proofs.Tryz.prog 95 [aInts a, aInts b] (ab (decide (a = b))) := by
  by_cases hl : a.length = b.length
  · have hli : (a.length : Int) = b.length := by omega
    refine PC.enter 26 [.tmp 4] [] Go.Proofs.Tryz.func95 rfl rfl rfl rfl rfl (by simp) (AWp.of ?_); simp only [go_sem]
    repeat (first | ((with_reducible refine AWp.ofC ?_ ?_); (focus exact rfl); simp only [go_sem, hli]) | ((with_reducible refine an ?_ ?_); focus exact Au))
    refine AWp.block (AWp.count 5 a.length [] [0, 1] (fun k vs L => L = [] ∧ ∀ j (h1 : j < a.length) (h2 : j < b.length), j < k → a[j] = b[j]) rfl rfl ⟨rfl, fun j _ _ h => by omega⟩ ?_)
    rintro k vs L hk - ⟨rfl, hI⟩
    simp only [go_sem]
    repeat (first | ((with_reducible refine AWp.ofC ?_ ?_); (focus exact rfl); simp only [go_sem, hli]) | ((with_reducible refine an ?_ ?_); focus exact Au))
    refine ⟨fun h3 => ?_, fun h3 => ?_⟩
    · have hka : k < a.length := by omega
      have hkb : k < b.length := by omega
      have ga := getD_map (f := ai) hka
      have gb := getD_map (f := ai) hkb
      refine AWp.seq (AWp.block (AWp.seq ?_))
      refine AWp.drawn mixed 9 (by kernel_rfl) ?_; simp only [go_sem, ga, gb]
      repeat ((with_reducible refine an ?_ ?_); focus exact As)
      repeat (first | ((with_reducible refine AWp.ofC ?_ ?_); (focus exact rfl); simp only [go_sem]) | ((with_reducible refine an ?_ ?_); focus exact Au))
      refine ⟨fun h4 => ?_, fun h4 => ?_⟩
      · repeat (first | ((with_reducible refine AWp.ofC ?_ ?_); (focus exact rfl); simp only [go_sem]) | ((with_reducible refine an ?_ ?_); focus exact Au))
        refine ret_eq ?_; simp only [go_sem]
        rw [decide_eq_false]
        rintro rfl
        exact h4 rfl
      · repeat (first | ((with_reducible refine AWp.ofC ?_ ?_); (focus exact rfl); simp only [go_sem]) | ((with_reducible refine an ?_ ?_); focus exact Au))
        refine ⟨_, List.Sublist.refl _, rfl, fun j j1 j2 hj => ?_⟩
        by_cases e : j = k
        · subst e; omega
        · exact hI j j1 j2 (by omega)
    · repeat (first | ((with_reducible refine AWp.ofC ?_ ?_); (focus exact rfl); simp only [go_sem]) | ((with_reducible refine an ?_ ?_); focus exact Au))
      refine ret_eq ?_; simp only [go_sem]
      rw [decide_eq_true]
      exact List.ext_getElem hl fun j j1 j2 => hI j j1 j2 (by omega)
  · have hli : ¬ (a.length : Int) = b.length := by omega
    rw [decide_eq_false fun h => hl (by rw [h])]
    refine PC.enter 26 [.tmp 4] [] Go.Proofs.Tryz.func95 rfl rfl rfl rfl rfl (by simp) (AWp.of ?_); simp only [go_sem]
    repeat (first | ((with_reducible refine AWp.ofC ?_ ?_); (focus exact rfl); simp only [go_sem, hli]) | ((with_reducible refine an ?_ ?_); focus exact Au))
    refine ret_eq ?_; simp only [go_sem]
theorem insF_at {l : List (List Int)} {c : List Int} {k : Nat} (hk : k ≤ l.length) (h1 : ∀ j (hj : j < l.length), j < k → befF l[j] c = true) (h2 : ∀ hk : k < l.length, befF l[k] c = false) : (l.takeWhile fun x => befF x c) = l.take k ∧ (l.dropWhile fun x => befF x c) = l.drop k := by
  induction l generalizing k with
  | nil => simp
  | cons a l ih =>
    cases k with
    | zero =>
      have := h2 (by simp)
      simp only [List.getElem_cons_zero] at this
      rw [List.takeWhile_cons, List.dropWhile_cons, this]; simp
    | succ k =>
      have h0 := h1 0 (by simp) (by omega)
      simp only [List.getElem_cons_zero] at h0
      obtain ⟨i1, i2⟩ := ih (k := k) (by simpa using hk) (fun j hj hjk => by have := h1 (j + 1) (by simpa using hj) (by omega); simpa using this) (fun hk => by have := h2 (by simpa using hk); simpa using this)
      rw [List.takeWhile_cons, List.dropWhile_cons, h0]
      simp [i1, i2]
theorem ref23_insert (l : List (List Int)) (c : List Int) (hl : l.length ≤ 1000000) (hc : Cb c) (hr : ∀ x ∈ l, Cb x ∧ x.length = c.length) : PC Go.Proofs.Tryz.prog 55 [aRows l, aInts c] (aRows (insF l c)) := by
  have hB := fun j (hj : j < l.length) => ref23_Before l[j] c (hr _ (List.getElem_mem hj)).1 hc (hr _ (List.getElem_mem hj)).2
  have hE := fun j (hj : j < l.length) => ref15_SameList l[j] c (hr _ (List.getElem_mem hj)).1.1
  have hR : ∀ x : List (List Int), aRows x = .sl 1 (x.map aInts) := fun _ => rfl
  rw [hR, hR]
  refine PC.enter 48 [.tmp 4] [41] Go.Proofs.Tryz.func55 rfl rfl rfl rfl rfl (by simp) (AWp.of ?_); simp only [go_sem]
  repeat (first | ((with_reducible refine AWp.ofC ?_ ?_); (focus exact rfl); simp only [go_sem]) | ((with_reducible refine an ?_ ?_); focus exact Au))
  refine AWp.cut [0, 1, 5] (fun vs L => L = [] ∧ ∃ k : Nat, k ≤ l.length ∧ vs = [.sl 1 (l.map aInts), aInts c, ai k] ∧ (∀ j (hj : j < l.length), j < k → befF l[j] c = true) ∧ ∀ hk : k < l.length, befF l[k] c = false) ?_ ?_
  · refine AWp.block (AWp.loopN [5] [0, 1] (fun m vs L => L = [] ∧ ∃ k : Nat, k ≤ l.length ∧ m = l.length - k ∧ vs = [ai k] ∧ ∀ j (hj : j < l.length), j < k → befF l[j] c = true) l.length ?_ ?_)
    · exact ⟨rfl, 0, by omega, rfl, rfl, fun j _ h => by omega⟩
    rintro m vs L - ⟨rfl, k, hk, rfl, rfl, hI⟩
    by_cases hkl : k < l.length
    · have hki : (k : Int) < l.length := by omega
      have g := getD_map (f := aInts) hkl
      have hBk := hB k hkl
      simp only [go_sem]
      repeat (first | ((with_reducible refine AWp.ofC ?_ ?_); (focus exact rfl); simp only [go_sem, g, hki]) | ((with_reducible refine an ?_ ?_); focus exact Au))
      refine GCall.use (ab (befF l[k] c)) ?_ ?_
      · intro _; exact ⟨At, hBk.val.use ⟨rfl, rfl⟩⟩
      simp only [go_sem]
      repeat ((with_reducible refine an ?_ ?_); focus exact As)
      cases hb : befF l[k] c with
      | true =>
        repeat (first | ((with_reducible refine AWp.ofC ?_ ?_); (focus exact rfl); simp only [go_sem]) | ((with_reducible refine an ?_ ?_); focus exact Au))
        refine ⟨_, List.Sublist.refl _, _, by omega, rfl, k + 1, by omega, rfl, by rw [show ((k + 1 : Nat) : Int) = (k : Int) + 1 by omega], fun j hj hjk => ?_⟩
        by_cases e : j = k
        · subst e; exact hb
        · exact hI j hj (by omega)
      | false =>
        repeat (first | ((with_reducible refine AWp.ofC ?_ ?_); (focus exact rfl); simp only [go_sem]) | ((with_reducible refine an ?_ ?_); focus exact Au))
        exact ⟨_, List.Sublist.refl _, rfl, k, hk, rfl, hI, fun _ => hb⟩
    · have hki : ¬ (k : Int) < l.length := by omega
      have hke : k = l.length := by omega
      subst hke
      simp only [go_sem]
      repeat (first | ((with_reducible refine AWp.ofC ?_ ?_); (focus exact rfl); simp only [go_sem, hki]) | ((with_reducible refine an ?_ ?_); focus exact Au))
      refine GCall.use (ab false) (fun g => by simp at g) ?_
      simp only [go_sem]
      repeat (first | ((with_reducible refine AWp.ofC ?_ ?_); (focus exact rfl); simp only [go_sem]) | ((with_reducible refine an ?_ ?_); focus exact Au))
      exact ⟨_, List.Sublist.refl _, rfl, l.length, Nat.le_refl _, rfl, hI, fun h => by omega⟩
  · rintro vs L - ⟨rfl, k, hk, rfl, h1, h2⟩
    obtain ⟨i1, i2⟩ := insF_at hk h1 h2
    have hck := hc.1
    unfold insF
    rw [i1, i2]
    by_cases hkl : k < l.length
    · have hki : (k : Int) < l.length := by omega
      have g := getD_map (f := aInts) hkl
      have hEk := hE k hkl
      have hd : (l.drop k).head? = some l[k] := by rw [List.head?_drop, List.getElem?_eq_getElem hkl]
      rw [hd]
      simp only [go_sem]
      repeat (first | ((with_reducible refine AWp.ofC ?_ ?_); (focus exact rfl); simp only [go_sem, g, hki]) | ((with_reducible refine an ?_ ?_); focus exact Au))
      refine GCall.use (ab (decide (l[k] = c))) ?_ ?_
      · intro _; exact ⟨At, hEk.val.use ⟨rfl, rfl⟩⟩
      simp only [go_sem]
      repeat ((with_reducible refine an ?_ ?_); focus exact As)
      repeat (first | ((with_reducible refine AWp.ofC ?_ ?_); (focus exact rfl); simp only [go_sem]) | ((with_reducible refine an ?_ ?_); focus exact Au))
      refine ⟨fun h3 => ?_, fun h3 => ?_⟩
      · repeat (first | ((with_reducible refine AWp.ofC ?_ ?_); (focus exact rfl); simp only [go_sem]) | ((with_reducible refine an ?_ ?_); focus exact Au))
        refine ret_eq ?_; simp only [go_sem]
        rw [if_pos (by rw [h3])]
      · rw [if_neg (fun e => h3 (by simpa using e))]
        repeat (first | ((with_reducible refine AWp.ofC ?_ ?_); (focus exact rfl); simp only [go_sem]) | ((with_reducible refine an ?_ ?_); focus exact Au))
        intro b0
        refine ⟨⟨by omega, by omega, by omega⟩, ⟨by rw [List.length_take]; omega, by rw [List.length_take]; omega⟩, fun b1 cap1 _ => ?_⟩
        repeat (first | ((with_reducible refine AWp.ofC ?_ ?_); (focus exact rfl); simp only [go_sem]) | ((with_reducible refine an ?_ ?_); focus exact Au))
        refine ⟨⟨by rw [List.length_take]; omega, by rw [List.length_take]; omega⟩, fun b2 cap2 _ => ?_⟩
        repeat (first | ((with_reducible refine AWp.ofC ?_ ?_); (focus exact rfl); simp only [go_sem]) | ((with_reducible refine an ?_ ?_); focus exact Au))
        have htd : (l.take k).length + 1 + (l.drop k).length = l.length + 1 := by rw [List.length_take, List.length_drop]; omega
        refine ⟨by simp, ⟨by omega, by omega⟩, fun b3 cap3 _ => ?_⟩
        repeat (first | ((with_reducible refine AWp.ofC ?_ ?_); (focus exact rfl); simp only [go_sem]) | ((with_reducible refine an ?_ ?_); focus exact Au))
        refine ret_view [true] ?_; simp only [go_sem]
        have e : List.take ((List.take k l).length + 1) (List.map aInts (List.take k l) ++ [AV.sl 1 (List.map ai c)]) ++ List.map aInts (List.drop k l) = List.map aInts (List.take k l ++ c :: List.drop k l) := by
          rw [List.take_of_length_le (by simp)]; simp [aInts]
        rw [e]
        exact Vw.ofLs (if_pos rfl) (by rw [List.length_map, List.length_append, List.length_cons]; omega)
    · have hki : ¬ (k : Int) < l.length := by omega
      have hke : k = l.length := by omega
      subst hke
      rw [if_neg (by simp)]
      simp only [go_sem]
      repeat (first | ((with_reducible refine AWp.ofC ?_ ?_); (focus exact rfl); simp only [go_sem, hki]) | ((with_reducible refine an ?_ ?_); focus exact Au))
      refine GCall.use (ab false) (fun g => by simp at g) ?_
      simp only [go_sem]
      repeat (first | ((with_reducible refine AWp.ofC ?_ ?_); (focus exact rfl); simp only [go_sem, List.take_length, List.drop_length]) | ((with_reducible refine an ?_ ?_); focus exact Au))
      intro b0
      refine ⟨⟨by omega, by omega, by omega⟩, ⟨by omega, by omega⟩, fun b1 cap1 _ => ?_⟩
      repeat (first | ((with_reducible refine AWp.ofC ?_ ?_); (focus exact rfl); simp only [go_sem]) | ((with_reducible refine an ?_ ?_); focus exact Au))
      intro b2 cap2 _
      repeat (first | ((with_reducible refine AWp.ofC ?_ ?_); (focus exact rfl); simp only [go_sem]) | ((with_reducible refine an ?_ ?_); focus exact Au))
      have hdl : (List.drop l.length l).length = 0 := by rw [List.length_drop]; omega
      refine ⟨by simp, ⟨by omega, by omega⟩, fun b3 cap3 _ => ?_⟩
      repeat (first | ((with_reducible refine AWp.ofC ?_ ?_); (focus exact rfl); simp only [go_sem]) | ((with_reducible refine an ?_ ?_); focus exact Au))
      refine ret_view [true] ?_; simp only [go_sem]
      have e : List.take (l.length + 1) (List.map aInts l ++ [AV.sl 1 (List.map ai c)]) ++ List.map aInts (List.drop l.length l) = List.map aInts (l ++ [c]) := by
        rw [List.take_of_length_le (by simp), List.drop_length]; simp [aInts]
      rw [e]
      exact Vw.ofLs (if_pos rfl) (by rw [List.length_map, List.length_append, List.length_singleton]; omega)
theorem moreT_succ {ps : List Pr} {l : List (List Int)} {i : Nat} (hi : i < l.length) : moreT ps (l.take (i + 1)) = insL (moreT ps (l.take i)) (nextL ps l[i]) := by
  unfold moreT
  rw [List.take_add_one, List.getElem?_eq_getElem hi, List.foldl_append]; rfl
theorem insL_succ {acc l : List (List Int)} {j : Nat} (hj : j < l.length) : insL acc (l.take (j + 1)) = insF (insL acc (l.take j)) l[j] := by
  unfold insL
  rw [List.take_add_one, List.getElem?_eq_getElem hj, List.foldl_append]; rfl
set_option maxHeartbeats 1000000 in
theorem ref23_List (ps : List Pr) (hs : Sm ps) (hv : validF ps = true) : PC Go.Proofs.Tryz.prog 13 [aTr ps] (if 5000 < (cutsF ps).length then .tup [.sl 1 [], ab false] else .tup [aRows (cutsF ps), ab true]) := by
  obtain ⟨hl1, hl8⟩ := valid_len hv
  have hps := hs.procs
  have hisF : ∀ c, isF ps c = true → Cb c ∧ c.length = ps.length := fun c h => ⟨isF_cb hs h, (isF_iff.1 h).1⟩
  have hlev : ∀ k c, c ∈ levF ps k → isF ps c = true := fun k c h => ((mem_levF hv k c).1 h).1
  have hnxt : ∀ c d, d ∈ nextL ps c → isF ps d = true := fun c d h => by obtain ⟨_, _, _, h1, rfl⟩ := mem_nextL.1 h; exact h1
  have hR : ∀ x : List (List Int), aRows x = .sl 1 (x.map aInts) := fun _ => rfl
  have hNx := fun c hc => ref23_Next ps hs hl1 c hc
  have hE : (if 5000 < (cutsF ps).length then AV.tup [.sl 1 [], ab false] else .tup [aRows (cutsF ps), ab true]) = if 5000 < (cutsF ps).length then AV.tup [.sl 1 [], ab false] else .tup [.sl 1 ((cutsF ps).map aInts), ab true] := rfl
  rw [hE]
  refine PC.enter 50 [.tmp 2, .tmp 3] [1] Go.Proofs.Tryz.func13 rfl rfl rfl rfl rfl (by simp) (AWp.of ?_); simp only [go_sem]
  repeat (first | ((with_reducible refine AWp.ofC ?_ ?_); (focus exact rfl); simp only [go_sem]) | ((with_reducible refine an ?_ ?_); focus exact Au))
  intro b0 b1 g1
  have n1 : ¬ b1 = b0 := by omega
  have n2 : ¬ b0 = b1 := by omega
  refine AWp.view [true, true] [(4, .sl 1 ((levF ps 0).map aInts))] (LVw.refl _) ?_ ?_
  · intro q hq
    simp only [List.mem_singleton] at hq
    subst hq
    simp only [go_sem, pickT]
    have e : List.replicate ps.length (ai 0) = (List.replicate ps.length (0 : Int)).map ai := (List.map_replicate).symm
    rw [e]
    exact Vw.ofLs' (t := 42) (cap := 1) (if_pos rfl) rfl (Vws.cons (Vw.ofLs (t := 3) (cap := ps.length) (by simp only [lk, n2, if_false, if_true]) (by rw [List.length_map, List.length_replicate])) .nil)
  simp only [go_sem, pickF]
  repeat (first | ((with_reducible refine AWp.ofC ?_ ?_); (focus exact rfl); simp only [go_sem]) | ((with_reducible refine an ?_ ?_); focus exact Au))
  refine AWp.seq (AWp.block (AWp.loopN [4, 5] [1] (fun m vs L => ∃ (k : Nat) (v : AV), vs = [.sl 1 ((levF ps k).map aInts), v] ∧ AppSt 42 1 ((cumF ps k).map aInts) v L ∧ (cumF ps k).length ≤ 5000 ∧ (levF ps k).length ≤ 40000 ∧ k ≤ off ps ps.length + 1 ∧ m = off ps ps.length + 1 - k) (off ps ps.length + 1) ?_ ?_))
  · exact ⟨0, anil, rfl, .nil, by simp [cumF], by simp [levF], by omega, rfl⟩
  rintro m vs L - ⟨k, v, rfl, hA, h5, hl4, hk, rfl⟩
  have hlevk := hlev k
  by_cases hlv : levF ps k = []
  · have hz : ¬ (0 : Int) < ((levF ps k).length : Int) := by rw [hlv]; simp
    have hcut : cutsF ps = cumF ps k := by
      unfold cutsF
      rw [show off ps ps.length + 1 = k + (off ps ps.length + 1 - k) by omega, cumF_end hlv]
    rw [hcut, if_neg (by omega)]
    generalize (cumF ps k).map aInts = ys at *
    rcases hA.inv with ⟨e1, rfl, rfl⟩ | ⟨bq, cap, rfl, rfl⟩
    · simp only [go_sem]
      repeat (first | ((with_reducible refine AWp.ofC ?_ ?_); (focus exact rfl); simp only [go_sem, hz]) | ((with_reducible refine an ?_ ?_); focus exact Au))
      refine ret_view [] ?_; simp only [go_sem]
      rw [e1]
      exact .mkTup (Vws.cons (.nil 1) (Vws.refl _))
    · simp only [go_sem]
      repeat (first | ((with_reducible refine AWp.ofC ?_ ?_); (focus exact rfl); simp only [go_sem, hz]) | ((with_reducible refine an ?_ ?_); focus exact Au))
      refine ret_view [true] ?_; simp only [go_sem]
      exact .mkTup (Vws.cons (Vw.ofLs (if_pos rfl) rfl) (Vws.refl _))
  · have hko : k ≤ off ps ps.length := by
      rcases Nat.lt_or_ge (off ps ps.length) k with h | h
      · exact absurd (levF_end hv h) hlv
      · exact h
    have hpos : 0 < (levF ps k).length := List.length_pos_iff.2 hlv
    have hne : ¬ (levF ps k).map aInts = [] := fun h => hlv (by simpa using h)
    have hposi : (0 : Int) < ((levF ps k).length : Int) := by omega
    have hcs := cumF_succ ps k
    have hcsl : (cumF ps (k + 1)).length = (cumF ps k).length + (levF ps k).length := by rw [hcs, List.length_append]
    have hmono := cumF_mono (ps := ps) (j := k + 1) (k := off ps ps.length + 1) (by omega)
    have hcutl : (cumF ps (off ps ps.length + 1)).length = (cutsF ps).length := rfl
    have hmore : (levF ps k).length ≤ 5000 → (levF ps (k + 1)).length ≤ 40000 := fun h => by
      have := moreT_len (ps := ps) (B := ps.length) (l := levF ps k) (acc := []) fun c hc => by rw [(hisF c (hlevk c hc)).2]; exact Nat.le_refl _
      have h2 : (levF ps k).length * ps.length ≤ 5000 * 8 := Nat.mul_le_mul h hl8
      have h3 : (levF ps (k + 1)).length = ((levF ps k).foldl (fun acc c => insL acc (nextL ps c)) []).length := rfl
      rw [h3]
      simp only [List.length_nil] at this
      omega
    have hys : (cumF ps (k + 1)).map aInts = (cumF ps k).map aInts ++ (levF ps k).map aInts := by rw [hcs, List.map_append]
    have hyl : ((cumF ps k).map aInts).length = (cumF ps k).length := List.length_map _
    simp only [go_sem]
    repeat ((with_reducible refine an ?_ ?_); focus exact As)
    refine AWp.of ?_; simp only [go_sem, hposi]
    repeat ((with_reducible refine an ?_ ?_); focus exact As)
    refine AWp.of ?_; simp only [go_sem]
    refine AWp.block (AWp.cut [1, 4, 5] (fun vs L => ∃ b cap, vs = [.rp 1 [aTr ps] 0 0, .sl 1 ((levF ps k).map aInts), .ls b 1 0 (cumF ps (k + 1)).length cap] ∧ L = [(b, .row 42 1 ((cumF ps (k + 1)).map aInts) cap)]) ?_ ?_)
    · rw [hys, hcsl]
      generalize hY : (cumF ps k).map aInts = ys at *
      rcases hA.inv with ⟨e1, rfl, rfl⟩ | ⟨bq, cap, rfl, rfl⟩
      · repeat (first | ((with_reducible refine AWp.ofC ?_ ?_); (focus exact rfl); simp only [go_sem, hne]) | ((with_reducible refine an ?_ ?_); focus exact Au))
        intro b' cap' _
        refine ⟨_, List.Sublist.refl _, b', cap', ?_, by rw [e1]; rfl⟩
        rw [e1] at hyl
        rw [← hyl]; simp
      · repeat (first | ((with_reducible refine AWp.ofC ?_ ?_); (focus exact rfl); simp only [go_sem]) | ((with_reducible refine an ?_ ?_); focus exact Au))
        intro b' cap' _
        refine ⟨_, List.Sublist.refl _, b', cap', ?_, ?_⟩
        · rw [hyl]
        · simp
    rintro vs L - ⟨b, cap, rfl, rfl⟩
    have hcl1 : ((cumF ps (k + 1)).map aInts).length = (cumF ps (k + 1)).length := List.length_map _
    generalize hCC : (cumF ps (k + 1)).map aInts = CC at *
    simp only [go_sem]
    by_cases h5k : 5000 < (cumF ps (k + 1)).length
    · have h5i : (5000 : Int) < ((cumF ps (k + 1)).length : Int) := by omega
      rw [if_pos (by omega)]
      repeat (first | ((with_reducible refine AWp.ofC ?_ ?_); (focus exact rfl); simp only [go_sem, h5i]) | ((with_reducible refine an ?_ ?_); focus exact Au))
      refine ret_view [] ?_; simp only [go_sem]
      exact .mkTup (Vws.cons (.nil 1) (Vws.refl _))
    · have h5i : ¬ (5000 : Int) < ((cumF ps (k + 1)).length : Int) := by omega
      have hmore := hmore (by omega)
      repeat (first | ((with_reducible refine AWp.ofC ?_ ?_); (focus exact rfl); simp only [go_sem, h5i]) | ((with_reducible refine an ?_ ?_); focus exact Au))
      refine AWp.view [false] [(6, .sl 1 ((moreT ps ((levF ps k).take 0)).map aInts))] (LVw.refl _) ?_ ?_
      · intro q hq
        simp only [List.mem_singleton] at hq
        subst hq
        simp only [go_sem, pickT]
        exact .nil 1
      simp only [go_sem, pickF]
      have hMl : ∀ i, (moreT ps ((levF ps k).take i)).length ≤ 40000 := fun i => by
        have := moreT_len (ps := ps) (B := ps.length) (l := (levF ps k).take i) (acc := []) fun c hc => by rw [(hisF c (hlevk c (List.mem_of_mem_take hc))).2]; exact Nat.le_refl _
        have h2 : ((levF ps k).take i).length * ps.length ≤ 5000 * 8 := Nat.mul_le_mul (by rw [List.length_take]; omega) hl8
        have h3 : (moreT ps ((levF ps k).take i)).length = (((levF ps k).take i).foldl (fun acc c => insL acc (nextL ps c)) []).length := rfl
        rw [h3]
        simp only [List.length_nil] at this
        omega
      have hMi : ∀ i, ∀ x ∈ moreT ps ((levF ps k).take i), isF ps x = true := fun i x hx => by
        unfold moreT at hx
        rcases mem_more.1 hx with h | ⟨c, _, h⟩
        · cases h
        · exact hnxt c x h
      have hMe : moreT ps ((levF ps k).take (levF ps k).length) = levF ps (k + 1) := by rw [List.take_length]; rfl
      refine AWp.block (AWp.count 7 (levF ps k).length [6] [1, 4, 5] (fun i vs L => L = [(b, .row 42 1 CC cap)] ∧ vs = [.sl 1 ((moreT ps ((levF ps k).take i)).map aInts)]) rfl rfl ⟨rfl, rfl⟩ ?_)
      rintro i vs L hi - ⟨rfl, rfl⟩
      by_cases hil : i < (levF ps k).length
      · have hii : (i : Int) < ((levF ps k).length : Int) := by omega
        have g := getD_map (f := aInts) hil
        have hci := hlevk _ (List.getElem_mem hil)
        have hNi := hNx _ hci
        have hms := moreT_succ (ps := ps) hil
        have hMl := hMl i
        have hMi := hMi i
        have hnxc := hnxt (levF ps k)[i]
        have hnl : (nextL ps (levF ps k)[i]).length ≤ 8 := by
          have := nextT_len ps (levF ps k)[i] (levF ps k)[i].length
          have h2 := (hisF _ hci).2
          have h3 : (nextL ps (levF ps k)[i]).length = (nextT ps (levF ps k)[i] (levF ps k)[i].length).length := rfl
          omega
        generalize moreT ps ((levF ps k).take i) = M at *
        generalize hM' : moreT ps ((levF ps k).take (i + 1)) = M' at *
        generalize hnx : nextL ps (levF ps k)[i] = nx at *
        generalize (levF ps k)[i] = c at *
        simp only [go_sem]
        repeat (first | ((with_reducible refine AWp.ofC ?_ ?_); (focus exact rfl); simp only [go_sem, hii]) | ((with_reducible refine an ?_ ?_); focus exact Au))
        refine AWp.seq (AWp.block (AWp.seq ?_))
        repeat (first | (with_reducible refine AWp.seq ?_) | (with_reducible refine AWp.block ?_))
        refine AWp.mix mixed [0, 1, 2, 3, 4, 5, 6] .done (by kernel_rfl) ?_; simp only [go_sem, g]
        repeat ((with_reducible refine an ?_ ?_); focus exact As)
        refine GCall.use (.sl 1 (nx.map aInts)) (fun _ => ⟨At, hNi.val.use ⟨rfl, rfl⟩⟩) ?_
        simp only [go_sem]
        repeat (first | ((with_reducible refine AWp.ofC ?_ ?_); (focus exact rfl); simp only [go_sem]) | ((with_reducible refine an ?_ ?_); focus exact Au))
        refine AWp.block (AWp.count 9 nx.length [6] [1, 4, 5, 7, 8] (fun j vs L => L = [(b, .row 42 1 CC cap)] ∧ vs = [.sl 1 ((insL M (nx.take j)).map aInts)]) rfl rfl ⟨rfl, rfl⟩ ?_)
        rintro j vs L hj - ⟨rfl, rfl⟩
        by_cases hjl : j < nx.length
        · have hji : (j : Int) < (nx.length : Int) := by omega
          have g2 := getD_map (f := aInts) hjl
          have hcj := hisF _ (hnxc _ (List.getElem_mem hjl))
          have hIns := ref23_insert (insL M (nx.take j)) nx[j] (by have := insL_len (nx.take j) M; rw [List.length_take] at this; omega) hcj.1 fun x hx => by
            have hx1 : isF ps x = true := by
              rcases mem_insL.1 hx with h | h
              · exact hMi x h
              · exact hnxc x (List.mem_of_mem_take h)
            have := hisF x hx1
            exact ⟨this.1, by rw [this.2, hcj.2]⟩
          have his := insL_succ (acc := M) hjl
          rw [← his] at hIns
          simp only [go_sem]
          repeat (first | ((with_reducible refine AWp.ofC ?_ ?_); (focus exact rfl); simp only [go_sem, hji, g2]) | ((with_reducible refine an ?_ ?_); focus exact Au))
          repeat ((with_reducible refine an ?_ ?_); focus exact As)
          refine (hIns).val.use ?_; simp only [go_sem]
          repeat (first | ((with_reducible refine AWp.ofC ?_ ?_); (focus exact rfl); simp only [go_sem]) | ((with_reducible refine an ?_ ?_); focus exact Au))
          exact ⟨_, List.Sublist.refl _, rfl⟩
        · have hji : ¬ (j : Int) < (nx.length : Int) := by omega
          have hje : j = nx.length := by omega
          subst hje
          rw [List.take_length, ← hms]
          simp only [go_sem]
          repeat (first | ((with_reducible refine AWp.ofC ?_ ?_); (focus exact rfl); simp only [go_sem, hji]) | ((with_reducible refine an ?_ ?_); focus exact Au))
          exact ⟨_, List.Sublist.refl _, rfl, by rw [hM']⟩
      · have hii : ¬ (i : Int) < ((levF ps k).length : Int) := by omega
        have hie : i = (levF ps k).length := by omega
        subst hie
        rw [hMe]
        simp only [go_sem]
        repeat (first | ((with_reducible refine AWp.ofC ?_ ?_); (focus exact rfl); simp only [go_sem, hii]) | ((with_reducible refine an ?_ ?_); focus exact Au))
        refine ⟨_, List.Sublist.refl _, _, ?_, k + 1, _, rfl, ?_, by omega, hmore, by omega, rfl⟩
        · omega
        · rw [hCC, ← hcl1]
          exact .row _ _ _
end Go.AL
end
section
namespace Go.AL
open Go Go.RowKit
set_option maxRecDepth 4000
theorem stpsG_chn {ps : List Pr} : ∀ {r : List (List Int)} {a : List Int}, isF ps a = true → (stpsG ps a r).isSome = chnF ps a r
  | [], _, _ => rfl
  | b :: r, a, ha => by
    have e : stpsG ps a (b :: r) = match stpP ps a b with
      | none => none
      | some p => (stpsG ps b r).map (p :: ·) := rfl
    have e2 : chnF ps a (b :: r) = ((isF ps b && decide (0 ≤ stepF a b)) && chnF ps b r) := rfl
    rw [e, e2, stpP_step ha]
    by_cases h : isF ps b = true ∧ 0 ≤ stepF a b
    · rw [if_pos h]
      simp only
      rw [Option.isSome_map, stpsG_chn h.1, h.1, decide_eq_true h.2]
      rfl
    · rw [if_neg h]
      cases hb : isF ps b with
      | false => rfl
      | true =>
        have : ¬ 0 ≤ stepF a b := fun h2 => h ⟨hb, h2⟩
        rw [decide_eq_false this]; rfl
theorem stpsF_run {ps : List Pr} {r : List (List Int)} : (stpsF ps r).isSome = isRunF ps r := by
  cases r with
  | nil => rfl
  | cons a r =>
    show (if a = zeroC ps ∧ (a :: r).getLast? = some (fullC ps) then stpsG ps a r else none).isSome = (decide (a = zeroC ps ∧ (a :: r).getLast? = some (fullC ps)) && chnF ps a r)
    by_cases h : a = zeroC ps ∧ (a :: r).getLast? = some (fullC ps)
    · rw [if_pos h, decide_eq_true h, Bool.true_and]
      exact stpsG_chn (by rw [h.1]; exact zeroC_is ps)
    · rw [if_neg h, decide_eq_false h]; rfl
theorem evt_eq {ps : List Pr} : ∀ {r : List (List Int)} {a : List Int} {l : List Nat}, isF ps a = true → stpsG ps a r = some l → evtP (a :: r) l = evtG a r ∧ l.length = r.length
  | [], a, l, ha, h => by
    have : l = [] := (Option.some.inj h).symm
    subst this; exact ⟨rfl, rfl⟩
  | b :: r, a, l, ha, h => by
    have e : stpsG ps a (b :: r) = match stpP ps a b with
      | none => none
      | some p => (stpsG ps b r).map (p :: ·) := rfl
    rw [e] at h
    cases hp : stpP ps a b with
    | none => rw [hp] at h; cases h
    | some p =>
      rw [hp] at h
      simp only at h
      cases hs : stpsG ps b r with
      | none => rw [hs] at h; cases h
      | some l' =>
        rw [hs] at h
        have hl : l = p :: l' := (Option.some.inj h).symm
        subst hl
        obtain ⟨g1, g2, g3⟩ := (stpP_some (isF_iff.1 ha).1).1 hp
        have hal := (isF_iff.1 ha).1
        have hb : isF ps b = true := by rw [g3]; exact rdy_is g2
        obtain ⟨i1, i2⟩ := evt_eq hb hs
        have e1 : stepF a b = p := stepF_iff.2 ⟨by omega, g3⟩
        refine ⟨?_, by rw [List.length_cons, List.length_cons, i2]⟩
        show ((p : Int), cAt a p + 1) :: evtP (b :: r) l' = (stepF a b, cAt b (stepF a b)) :: evtG b r
        rw [i1, e1]
        congr 2
        rw [g3, cAt_stp (by omega), if_pos rfl]
end Go.AL
end
section
namespace Go.AL
open Go Go.RowKit
set_option maxRecDepth 4000
theorem en_full {ps : List Pr} {c : List Int} (hc : isF ps c = true) (h : c.sum = off ps ps.length) {k : Nat} (hk : k ≤ c.length) : enF ps c k = [] := by
  apply List.eq_nil_iff_forall_not_mem.2
  intro p hp
  have := (en_sum hc hk hp).2.2.1
  omega
theorem addA_sum {A W : Nat → Nat} {j x : Nat} : ∀ {L : List Nat}, L.Nodup → (L.map fun k => addA A j x k * W k).sum = (L.map fun k => A k * W k).sum + if j ∈ L then x * W j else 0
  | [], _ => by simp
  | k :: L, hn => by
    rw [List.nodup_cons] at hn
    rw [List.map_cons, List.map_cons, List.sum_cons, List.sum_cons, addA_sum hn.2]
    by_cases e : k = j
    · subst e
      have : addA A k x k = A k + x := if_pos rfl
      rw [this, if_neg hn.1, if_pos (by simp), Nat.add_mul]; omega
    · have : addA A j x k = A k := if_neg e
      rw [this]
      by_cases hj : j ∈ L
      · rw [if_pos hj, if_pos (List.mem_cons_of_mem _ hj)]; omega
      · rw [if_neg hj, if_neg (by simp only [List.mem_cons]; rintro (h | h); exact e h.symm; exact hj h)]; omega
theorem pot_succ (ps : List Pr) (l : List (List Int)) (A : Nat → Nat) (i m : Nat) : pot ps l A i (m + 1) = A i * wayV ps (l.getD i []) + pot ps l A (i + 1) m := by
  unfold pot; rw [List.range'_succ, List.map_cons, List.sum_cons]
section
variable {ps : List Pr} (hv : validF ps = true) {l : List (List Int)} (hl : l = cutsF ps)
include hv hl
theorem prc_pot {i : Nat} (hi : i < l.length) : ∀ (E : List Nat) (A : Nat → Nat), (∀ p ∈ E, p ∈ enF ps l[i] l[i].length) → pot ps l (prcT ps l i A E) (i + 1) (l.length - (i + 1)) = pot ps l A (i + 1) (l.length - (i + 1)) + A i * (E.map fun p => wayV ps (stpC l[i] p)).sum
  | [], A, _ => by simp [prcT]
  | p :: E, A, h => by
    have hg : l.getD i [] = l[i] := by rw [List.getD_eq_getElem?_getD, List.getElem?_eq_getElem hi]; rfl
    have e : prcT ps l i A (p :: E) = prcT ps l i (addA A (idxN l (stpC (l.getD i []) p)) (A i)) E := rfl
    obtain ⟨h1, h2, h3⟩ := idx_step hv hl hi (h p (by simp))
    rw [e, prc_pot hi E _ fun q hq => h q (List.mem_cons_of_mem _ hq), hg]
    have hk : addA A (idxN l (stpC l[i] p)) (A i) i = A i := if_neg (by omega)
    rw [hk]
    have hsum : pot ps l (addA A (idxN l (stpC l[i] p)) (A i)) (i + 1) (l.length - (i + 1)) = pot ps l A (i + 1) (l.length - (i + 1)) + A i * wayV ps (stpC l[i] p) := by
      unfold pot
      rw [addA_sum (W := fun k => wayV ps (l.getD k [])) (List.nodup_range' (step := 1) (by omega)), if_pos (by rw [List.mem_range'_1]; omega)]
      congr 3
      rw [List.getD_eq_getElem?_getD, List.getElem?_eq_getElem h2]
      exact h3
    rw [hsum, List.map_cons, List.sum_cons, Nat.mul_add]; omega
theorem fwd_pot (hn : 0 < l.length) : ∀ i, i < l.length → pot ps l (fwdA ps l i) i (l.length - i) = wayV ps (l.getD 0 [])
  | 0, _ => by
    have e : l.length - 0 = (l.length - 1) + 1 := by omega
    rw [e, pot_succ]
    have : ∀ (m s : Nat), 0 < s → pot ps l (fwdA ps l 0) s m = 0 := fun m => by
      induction m with
      | zero => intro s _; rfl
      | succ m ih =>
        intro s hs
        rw [pot_succ, ih (s + 1) (by omega)]
        have : fwdA ps l 0 s = 0 := if_neg (by omega)
        rw [this]; simp
    rw [this _ _ (by omega)]
    have : fwdA ps l 0 0 = 1 := rfl
    rw [this]; omega
  | i + 1, hi => by
    have ih := fwd_pot hn i (by omega)
    have hm : ∀ c, c ∈ l ↔ isF ps c = true := fun c => by rw [hl]; exact mem_cutsF hv
    have ho : l.Pairwise ordL := by rw [hl]; exact cuts_ord hv
    have hi' : i < l.length := by omega
    have hg : l.getD i [] = l[i] := by rw [List.getD_eq_getElem?_getD, List.getElem?_eq_getElem hi']; rfl
    have hc := (hm _).1 (List.getElem_mem hi')
    have hlt : l[i].sum < off ps ps.length := by
      have h1 := sum_le_off hc
      have h2 := sum_le_off ((hm _).1 (List.getElem_mem hi))
      rcases ord_get ho hi' hi (by omega) with h3 | ⟨h3, h4⟩
      · omega
      · apply Classical.byContradiction
        intro h5
        have e1 := (full_of_sum hc).2 (by omega)
        have e2 := (full_of_sum ((hm _).1 (List.getElem_mem hi))).2 (by omega)
        rw [e1, e2, cmpL_irr] at h4; omega
    rw [show l.length - i = (l.length - (i + 1)) + 1 by omega, pot_succ, hg, wayV_stp hc hlt] at ih
    have e : fwdA ps l (i + 1) = prcT ps l i (fwdA ps l i) (enF ps (l.getD i []) (l.getD i []).length) := rfl
    rw [e, hg, prc_pot hv hl hi' _ _ (fun p hp => hp), Nat.add_comm]
    exact ih
theorem fwd_count : fwdA ps l l.length (l.length - 1) = wayV ps (zeroC ps) := by
  have h0 := lst_len0 hv hl
  have h1 : l.length - 1 < l.length := by omega
  have hp := fwd_pot hv hl h0 (l.length - 1) h1
  rw [lst_first hv hl, show l.length - (l.length - 1) = 0 + 1 by omega, pot_succ, lst_last hv hl, wayV_full (fullC_sum ps)] at hp
  have e0 : pot ps l (fwdA ps l (l.length - 1)) (l.length - 1 + 1) 0 = 0 := rfl
  rw [e0] at hp
  have e : fwdA ps l (l.length - 1 + 1) = prcT ps l (l.length - 1) (fwdA ps l (l.length - 1)) (enF ps (l.getD (l.length - 1) []) (l.getD (l.length - 1) []).length) := rfl
  rw [show fwdA ps l l.length = fwdA ps l (l.length - 1 + 1) by rw [show l.length - 1 + 1 = l.length by omega], e, lst_last hv hl, en_full (fullC_is hv) (fullC_sum ps) (Nat.le_refl _)]
  show fwdA ps l (l.length - 1) (l.length - 1) = _
  omega
end
end Go.AL
end
section
namespace Go.AL
open Go Go.RowKit
set_option maxRecDepth 4000
theorem ofR_cons (ps : List Pr) (c : List Int) (x : Eid) (l : List Eid) : ofR ps c (x :: l) = if (0 ≤ x.1 ∧ x.1 < ps.length) ∧ rdyF ps c x.1.toNat = true ∧ x.2 = cAt c x.1 + 1 then (ofR ps (stpC c x.1.toNat) l).map (stpC c x.1.toNat :: ·) else none := rfl
theorem isrun_inv {ps : List Pr} {r : List (List Int)} (h : isRunF ps r = true) : ∃ R, r = zeroC ps :: R ∧ chnF ps (zeroC ps) R = true ∧ (zeroC ps :: R).getLast? = some (fullC ps) := by
  cases r with
  | nil => cases h
  | cons a R =>
    have h : (decide (a = zeroC ps ∧ (a :: R).getLast? = some (fullC ps)) && chnF ps a R) = true := h
    rw [Bool.and_eq_true, decide_eq_true_eq] at h
    obtain ⟨⟨rfl, h2⟩, h3⟩ := h
    exact ⟨R, rfl, h3, h2⟩
theorem chn_get {ps : List Pr} : ∀ {R : List (List Int)} {c : List Int}, isF ps c = true → chnF ps c R = true → (evtG c R).length = R.length ∧ ∀ (i : Nat) (hi : i < (evtG c R).length) (hi2 : i + 1 < (c :: R).length),
    ∃ p : Nat, p < ps.length ∧ isF ps (c :: R)[i] = true ∧ rdyF ps (c :: R)[i] p = true ∧ (c :: R)[i + 1] = stpC (c :: R)[i] p ∧ (evtG c R)[i] = ((p : Int), cAt (c :: R)[i] p + 1)
  | [], c, hc, h => ⟨rfl, fun i hi => by cases hi⟩
  | b :: R, c, hc, h => by
    obtain ⟨q, h1, h2, rfl, h4, h5⟩ := (chn_cons hc).1 h
    have hl := (isF_iff.1 hc).1
    have e : evtG c (stpC c q :: R) = (stepF c (stpC c q), cAt (stpC c q) (stepF c (stpC c q))) :: evtG (stpC c q) R := rfl
    obtain ⟨i1, i2⟩ := chn_get (rdy_is h2) h5
    refine ⟨by rw [e, List.length_cons, List.length_cons, i1], fun i hi hi2 => ?_⟩
    cases i with
    | zero =>
      refine ⟨q, h1, hc, h2, rfl, ?_⟩
      show (stepF c (stpC c q), cAt (stpC c q) (stepF c (stpC c q))) = _
      rw [h4, cAt_stp (by omega), if_pos rfl]
      rfl
    | succ i =>
      have hi' : i < (evtG (stpC c q) R).length := by rw [e, List.length_cons] at hi; omega
      exact i2 i hi' (by rw [List.length_cons] at hi2; omega)
end Go.AL
end
