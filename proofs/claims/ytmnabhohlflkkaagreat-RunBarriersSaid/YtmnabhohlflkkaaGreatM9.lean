/- Texts of this claim's proof: WCt, WLv, WSn, WMk, WMr, WMn, WCu, WBig, WMl. No condition. -/
import Derived.Test.YtmnabhohlflkkaaGreatM8
import Derived.Test.YtmnabhohlflkkaaGreatM6
section
/- Consistent cuts, level by level. Plain laws. No condition. -/
namespace Go.AL
open Go Go.RowKit
set_option maxRecDepth 4000
theorem noreach {ps : List Pr} (hv : validF ps = true) {x : Eid} (hx : VEv ps x) : ¬ Reach ps x x := by
  obtain ⟨p, hp, i, hi, rfl⟩ := hx
  have h0 := valid_cyc hv
  unfold cycF at h0
  rw [Option.map_eq_none_iff, List.find?_eq_none] at h0
  simpa using h0 _ (List.mem_of_getElem? (evIds_get hp hi))
theorem reach_trans {ps : List Pr} {a b c : Eid} (h1 : Reach ps a b) (h2 : Reach ps b c) : Reach ps a c := by
  induction h2 with
  | single h => exact .tail h1 h
  | tail _ h ih => exact .tail ih h
theorem countP_lt {α : Type} {p q : α → Bool} : ∀ {l : List α}, (∀ a ∈ l, p a = true → q a = true) → (∃ a ∈ l, p a = false ∧ q a = true) → l.countP p < l.countP q
  | [], _, ⟨a, h, _⟩ => by cases h
  | b :: l, h1, ⟨a, ha, h2, h3⟩ => by
    have hle : l.countP p ≤ l.countP q := List.countP_mono_left fun a ha h => h1 a (List.mem_cons_of_mem _ ha) h
    rw [List.countP_cons, List.countP_cons]
    have hb := h1 b List.mem_cons_self
    rcases List.mem_cons.1 ha with rfl | ha
    · rw [h2, h3]; simp; omega
    · have := countP_lt (l := l) (fun a ha h => h1 a (List.mem_cons_of_mem _ ha) h) ⟨a, ha, h2, h3⟩
      by_cases e : p b = true
      · rw [e, hb e]; omega
      · rw [if_neg e]; split <;> omega
open Classical in
/-- How many events happened before one. -/
noncomputable def anc (ps : List Pr) (x : Eid) : Nat := (evIds ps).countP fun e => decide (Reach ps e.1 x)
theorem anc_lt {ps : List Pr} (hv : validF ps = true) {x y : Eid} (hx : VEv ps x) (h : Reach ps x y) : anc ps x < anc ps y := by
  classical
  unfold anc
  refine countP_lt (fun a _ ha => decide_eq_true (reach_trans (of_decide_eq_true ha) h)) ?_
  obtain ⟨e, he, e1⟩ := List.mem_map.1 hx.mem
  exact ⟨e, he, decide_eq_false (by rw [e1]; exact noreach hv hx), decide_eq_true (by rw [e1]; exact h)⟩
theorem nx_line {ps : List Pr} (hm : msgF ps = none) {p : Nat} (hp : p < ps.length) {j : Nat} (hj : j + 1 < ps[p].evs.length) : Nx ps ((p : Int), (j : Int) + 1) ((p : Int), ((j + 1 : Nat) : Int) + 1) := by
  refine ((dirL_iff hm hp hj _).1 ?_).2
  unfold dirL
  rw [List.mem_append, if_pos (by omega)]
  exact .inl (by simp)
theorem nx_send {ps : List Pr} (hm : msgF ps = none) {p : Nat} (hp : p < ps.length) {i : Nat} (hi : i < ps[p].evs.length) (hk : ps[p].evs[i].kind = 3) : Nx ps (sndr ps ps[p].evs[i].msg) ((p : Int), (i : Int) + 1) := by
  refine ((dirL_iff hm hp hi _).1 ?_).2
  unfold dirL
  rw [List.mem_append, evq_get hp hi, if_pos hk]
  exact .inr (by simp)
theorem reach_line {ps : List Pr} (hm : msgF ps = none) {p : Nat} (hp : p < ps.length) {i : Nat} : ∀ {j : Nat}, i < j → j < ps[p].evs.length → Reach ps ((p : Int), (i : Int) + 1) ((p : Int), (j : Int) + 1)
  | 0, h, _ => by omega
  | j + 1, h, hj => by
    by_cases e : i = j
    · subst e; exact .single (nx_line hm hp hj)
    · exact .tail (reach_line hm hp (by omega) (by omega)) (nx_line hm hp hj)
theorem anc_line {ps : List Pr} (hv : validF ps = true) {p : Nat} (hp : p < ps.length) {i j : Nat} (hij : i ≤ j) (hj : j < ps[p].evs.length) : anc ps ((p : Int), (i : Int) + 1) ≤ anc ps ((p : Int), (j : Int) + 1) := by
  by_cases e : i = j
  · subst e; exact Nat.le_refl _
  · exact Nat.le_of_lt (anc_lt hv ⟨p, hp, i, by omega, rfl⟩ (reach_line (valid_parts hv).2.2 hp (by omega) hj))
theorem argmax (f : Nat → Nat) (P : Nat → Prop) : ∀ n, (∃ p, p < n ∧ P p) → ∃ p, p < n ∧ P p ∧ ∀ q, q < n → P q → f q ≤ f p
  | 0, ⟨p, h, _⟩ => by omega
  | n + 1, ⟨p, hp, h⟩ => by
    classical
    by_cases hx : ∃ p, p < n ∧ P p
    · obtain ⟨m, h1, h2, h3⟩ := argmax f P n hx
      by_cases hn : P n ∧ f m < f n
      · refine ⟨n, by omega, hn.1, fun q hq hP => ?_⟩
        by_cases e : q = n
        · subst e; exact Nat.le_refl _
        · have := h3 q (by omega) hP; omega
      · refine ⟨m, by omega, h2, fun q hq hP => ?_⟩
        by_cases e : q = n
        · subst e
          have : ¬ f m < f q := fun h => hn ⟨hP, h⟩
          omega
        · exact h3 q (by omega) hP
    · have : p = n := by
        by_cases e : p = n
        · exact e
        · exact absurd ⟨p, by omega, h⟩ hx
      subst this
      refine ⟨p, by omega, h, fun q hq hP => ?_⟩
      by_cases e : q = p
      · subst e; exact Nat.le_refl _
      · exact absurd ⟨q, by omega, hP⟩ hx
theorem setc_cAt {d : List Int} {p q : Nat} {z : Int} (hq : q < d.length) : cAt (d.set p z) q = if p = q then z else cAt d q := by
  rw [cAt_nat (by rw [List.length_set]; exact hq), List.getElem_set]
  split
  · rfl
  · rw [cAt_nat hq]
/-- A consistent cut that is not empty has an event that can be taken away. -/
theorem cut_remove {ps : List Pr} (hv : validF ps = true) {c : List Int} (hl : c.length = ps.length) (hr : inRangeF ps c = true) (hcl : closedF ps c = true) (h0 : ∃ p, p < ps.length ∧ 0 < cAt c p) :
    ∃ p, p < ps.length ∧ 0 < cAt c p ∧ inRangeF ps (c.set p (cAt c p - 1)) = true ∧ closedF ps (c.set p (cAt c p - 1)) = true := by
  have hm := (valid_parts hv).2.2
  have hrr := (inRange_iff hl).1 hr
  obtain ⟨p, hp, hp0, hmax⟩ := argmax (fun p => anc ps ((p : Int), cAt c p)) (fun p => 0 < cAt c p) ps.length h0
  refine ⟨p, hp, hp0, (inRange_iff (by rw [List.length_set]; exact hl)).2 fun q hq => ?_, closed_iff.2 fun q hq i hi hk hle => ?_⟩
  · rw [setc_cAt (by omega)]
    split
    · rename_i e; subst e; have := hrr p hp; omega
    · exact hrr q hq
  · have hle' : (i : Int) + 1 ≤ cAt c q := by
      rw [setc_cAt (by omega)] at hle
      split at hle
      · rename_i e; subst e; omega
      · exact hle
    have h1 := closed_iff.1 hcl q hq i hi hk hle'
    obtain ⟨s, hs, j, hj, e, _, _⟩ := sndr_some (recv_sndr hm hq hi hk)
    have hn := nx_send hm hq hi hk
    rw [e] at h1 hn ⊢
    simp only at h1 ⊢
    rw [setc_cAt (by omega)]
    split
    · rename_i es; subst es
      by_cases hj2 : (j : Int) + 1 = cAt c p
      · exfalso
        have h2 := anc_lt hv ⟨p, hs, j, hj, rfl⟩ (.single hn)
        have h3 := hmax q hq (by omega)
        have hq2 := (hrr q hq).2
        have h4 := anc_line hv hq (i := i) (j := (cAt c q).toNat - 1) (by omega) (by omega)
        have h5 : (((cAt c q).toNat - 1 : Nat) : Int) + 1 = cAt c q := by omega
        rw [h5] at h4
        rw [hj2] at h2
        omega
      · omega
    · exact h1
/-! ### Levels -/
def isF (ps : List Pr) (c : List Int) : Bool := (decide (c.length = ps.length) && inRangeF ps c) && closedF ps c
theorem isF_iff {ps : List Pr} {c : List Int} : isF ps c = true ↔ c.length = ps.length ∧ inRangeF ps c = true ∧ closedF ps c = true := by
  unfold isF
  rw [Bool.and_eq_true, Bool.and_eq_true, decide_eq_true_eq, and_assoc]
def stpC (c : List Int) (p : Nat) : List Int := c.set p (cAt c p + 1)
def nx1 (ps : List Pr) (c : List Int) (p : Nat) : List (List Int) := if cAt c p < nev ps p ∧ isF ps (stpC c p) = true then [stpC c p] else []
def nextT (ps : List Pr) (c : List Int) (k : Nat) : List (List Int) := (List.range k).flatMap (nx1 ps c)
def nextL (ps : List Pr) (c : List Int) : List (List Int) := nextT ps c c.length
theorem nextT_succ (ps : List Pr) (c : List Int) (k : Nat) : nextT ps c (k + 1) = nextT ps c k ++ nx1 ps c k := by unfold nextT; rw [List.range_succ, List.flatMap_append]; simp
theorem nextT_len (ps : List Pr) (c : List Int) : ∀ k, (nextT ps c k).length ≤ k
  | 0 => by simp [nextT]
  | k + 1 => by
    rw [nextT_succ, List.length_append]
    have := nextT_len ps c k
    unfold nx1
    split <;> simp <;> omega
def lexF : List Int → List Int → Bool
  | a :: x, b :: y => if a = b then lexF x y else decide (a < b)
  | _, _ => false
def befF (a b : List Int) : Bool := if a.sum = b.sum then lexF a b else decide (a.sum < b.sum)
def insF (l : List (List Int)) (c : List Int) : List (List Int) := if (l.dropWhile fun x => befF x c).head? = some c then l else (l.takeWhile fun x => befF x c) ++ c :: l.dropWhile fun x => befF x c
theorem insF_len (l : List (List Int)) (c : List Int) : (insF l c).length ≤ l.length + 1 := by
  unfold insF
  split
  · omega
  · have h := congrArg List.length (List.takeWhile_append_dropWhile (p := fun x => befF x c) (l := l))
    rw [List.length_append] at h
    rw [List.length_append, List.length_cons]; omega
theorem mem_insF {l : List (List Int)} {c d : List Int} : d ∈ insF l c ↔ d ∈ l ∨ d = c := by
  unfold insF
  have h := List.takeWhile_append_dropWhile (p := fun x => befF x c) (l := l)
  split
  · rename_i hh
    constructor
    · exact .inl
    · rintro (h1 | rfl)
      · exact h1
      · rw [← h]
        exact List.mem_append_right _ (List.mem_of_mem_head? hh)
  · rw [List.mem_append, List.mem_cons]
    constructor
    · rintro (h1 | h1 | h1)
      · left; rw [← h]; exact List.mem_append_left _ h1
      · exact .inr h1
      · left; rw [← h]; exact List.mem_append_right _ h1
    · rintro (h1 | h1)
      · rw [← h, List.mem_append] at h1
        rcases h1 with h1 | h1
        · exact .inl h1
        · exact .inr (.inr h1)
      · exact .inr (.inl h1)
def insL (acc l : List (List Int)) : List (List Int) := l.foldl insF acc
theorem mem_insL {d : List Int} : ∀ {l acc : List (List Int)}, d ∈ insL acc l ↔ d ∈ acc ∨ d ∈ l
  | [], acc => by simp [insL]
  | c :: l, acc => by
    show d ∈ insL (insF acc c) l ↔ _
    rw [mem_insL, mem_insF, List.mem_cons, or_assoc]
theorem insL_len : ∀ (l acc : List (List Int)), (insL acc l).length ≤ acc.length + l.length
  | [], acc => by simp [insL]
  | c :: l, acc => by
    have := insL_len l (insF acc c)
    have := insF_len acc c
    show (insL (insF acc c) l).length ≤ _
    rw [List.length_cons]; omega
def moreT (ps : List Pr) (lv : List (List Int)) : List (List Int) := lv.foldl (fun acc c => insL acc (nextL ps c)) []
theorem mem_more {ps : List Pr} {d : List Int} : ∀ {lv acc : List (List Int)}, d ∈ lv.foldl (fun acc c => insL acc (nextL ps c)) acc ↔ d ∈ acc ∨ ∃ c ∈ lv, d ∈ nextL ps c
  | [], acc => by simp
  | c :: lv, acc => by
    rw [List.foldl_cons, mem_more, mem_insL, or_assoc]
    simp
def levF (ps : List Pr) : Nat → List (List Int)
  | 0 => [List.replicate ps.length 0]
  | k + 1 => moreT ps (levF ps k)
theorem mem_nextL {ps : List Pr} {c d : List Int} : d ∈ nextL ps c ↔ ∃ p, p < c.length ∧ cAt c p < nev ps p ∧ isF ps (stpC c p) = true ∧ d = stpC c p := by
  unfold nextL nextT
  rw [List.mem_flatMap]
  constructor
  · rintro ⟨p, hp, h⟩
    unfold nx1 at h
    split at h
    · rename_i h1
      exact ⟨p, List.mem_range.1 hp, h1.1, h1.2, by simpa using h⟩
    · cases h
  · rintro ⟨p, hp, h1, h2, rfl⟩
    exact ⟨p, List.mem_range.2 hp, by unfold nx1; rw [if_pos ⟨h1, h2⟩]; simp⟩
theorem sum_stpC {c : List Int} {p : Nat} (hp : p < c.length) : (stpC c p).sum = c.sum + 1 := by
  unfold stpC
  have h := sum_set c p (cAt c p + 1) hp
  have e : cAt c p = c.getD p 0 := by unfold cAt; simp
  rw [h, e]; omega
theorem isF_nonneg {ps : List Pr} {c : List Int} (h : isF ps c = true) : ∀ z ∈ c, 0 ≤ z := fun z hz => by
  obtain ⟨h1, h2, _⟩ := isF_iff.1 h
  obtain ⟨p, hp, rfl⟩ := List.getElem_of_mem hz
  have := ((inRange_iff h1).1 h2 p (by omega)).1
  rwa [cAt_nat hp] at this
theorem isF_zero {ps : List Pr} : isF ps (List.replicate ps.length 0) = true := by
  have e : ∀ q : Int, cAt (List.replicate ps.length 0) q = 0 := fun q => by
    unfold cAt
    rw [List.getD_eq_getElem?_getD, List.getElem?_replicate]
    split <;> rfl
  have hl : (List.replicate ps.length (0 : Int)).length = ps.length := List.length_replicate
  refine isF_iff.2 ⟨hl, (inRange_iff hl).2 fun p hp => ?_, closed_iff.2 fun p hp i hi hk hle => ?_⟩
  · rw [e]; omega
  · rw [e] at hle; omega
theorem mem_levF {ps : List Pr} (hv : validF ps = true) : ∀ (k : Nat) (c : List Int), c ∈ levF ps k ↔ isF ps c = true ∧ c.sum = k
  | 0, c => by
    show c ∈ [List.replicate ps.length 0] ↔ _
    rw [List.mem_singleton]
    constructor
    · rintro rfl
      refine ⟨isF_zero, ?_⟩
      have : ∀ n, (List.replicate n (0 : Int)).sum = 0 := fun n => by
        induction n with
        | zero => rfl
        | succ n ih => rw [List.replicate_succ, List.sum_cons, ih]; rfl
      rw [this]; rfl
    · rintro ⟨h, hs⟩
      obtain ⟨h1, h2, h3⟩ := isF_iff.1 h
      have hn := isF_nonneg h
      apply List.ext_getElem (by rw [h1, List.length_replicate])
      intro i hi hi2
      have := sum_ge c hn (List.getElem_mem hi)
      have := hn _ (List.getElem_mem hi)
      rw [List.getElem_replicate]
      rw [hs] at *
      omega
  | k + 1, c => by
    show c ∈ moreT ps (levF ps k) ↔ _
    unfold moreT
    rw [mem_more]
    constructor
    · rintro (h | ⟨d, hd, hc⟩)
      · cases h
      · obtain ⟨p, hp, _, h2, rfl⟩ := mem_nextL.1 hc
        have := ((mem_levF hv k d).1 hd).2
        exact ⟨h2, by rw [sum_stpC hp, this]; omega⟩
    · rintro ⟨h, hs⟩
      obtain ⟨h1, h2, h3⟩ := isF_iff.1 h
      have hn := isF_nonneg h
      have hpos : ∃ p, p < ps.length ∧ 0 < cAt c p := by
        by_cases hx : ∃ p, p < ps.length ∧ 0 < cAt c p
        · exact hx
        · exfalso
          have : ∀ z ∈ c, z = 0 := fun z hz => by
            obtain ⟨p, hp, rfl⟩ := List.getElem_of_mem hz
            have := hn _ hz
            have h4 : ¬ 0 < cAt c p := fun h => hx ⟨p, by omega, h⟩
            rw [cAt_nat hp] at h4
            omega
          have e : c.sum = 0 := by
            clear hs hn h hx h1 h2 h3
            induction c with
            | nil => rfl
            | cons a c ih =>
              rw [List.sum_cons, this a List.mem_cons_self, ih fun z hz => this z (List.mem_cons_of_mem _ hz)]; rfl
          omega
      obtain ⟨p, hp, hp0, r1, r2⟩ := cut_remove hv h1 h2 h3 hpos
      have hpc : p < c.length := by omega
      have hdl : (c.set p (cAt c p - 1)).length = c.length := List.length_set
      have hst : stpC (c.set p (cAt c p - 1)) p = c := by
        unfold stpC
        rw [setc_cAt hpc, if_pos rfl, List.set_set, show cAt c p - 1 + 1 = cAt c p by omega, cAt_nat hpc, List.set_getElem_self]
      refine .inr ⟨c.set p (cAt c p - 1), (mem_levF hv k _).2 ⟨isF_iff.2 ⟨by rw [hdl, h1], r1, r2⟩, ?_⟩, mem_nextL.2 ⟨p, by omega, ?_, by rw [hst]; exact h, hst.symm⟩⟩
      · have := sum_stpC (c := c.set p (cAt c p - 1)) (p := p) (by omega)
        rw [hst] at this; omega
      · rw [setc_cAt hpc, if_pos rfl, nev_get hp]
        have := ((inRange_iff h1).1 h2 p hp).2
        omega
theorem sum_totC : ∀ {c : List Int}, (∀ z ∈ c, 0 ≤ z) → c.sum = totC c
  | [], _ => rfl
  | a :: c, h => by
    have h0 := h a List.mem_cons_self
    have := sum_totC (c := c) fun z hz => h z (List.mem_cons_of_mem _ hz)
    unfold totC at *
    rw [List.sum_cons, List.map_cons, List.sum_cons, this]
    omega
theorem sum_le_off {ps : List Pr} {c : List Int} (h : isF ps c = true) : c.sum ≤ off ps ps.length := by
  obtain ⟨h1, h2, _⟩ := isF_iff.1 h
  have h3 := totC_le h1 h2
  have h4 := sum_totC (isF_nonneg h)
  omega
theorem levF_end {ps : List Pr} (hv : validF ps = true) {k : Nat} (h : off ps ps.length < k) : levF ps k = [] := by
  rw [List.eq_nil_iff_forall_not_mem]
  intro c hc
  obtain ⟨h1, h2⟩ := (mem_levF hv k c).1 hc
  have := sum_le_off h1
  omega
theorem levF_nil {ps : List Pr} {k : Nat} (h : levF ps k = []) : ∀ j, levF ps (k + j) = []
  | 0 => h
  | j + 1 => by
    show moreT ps (levF ps (k + j)) = []
    rw [levF_nil h j]; rfl
/-- The cuts of the first levels. -/
def cumF (ps : List Pr) (k : Nat) : List (List Int) := (List.range k).flatMap (levF ps)
theorem cumF_succ (ps : List Pr) (k : Nat) : cumF ps (k + 1) = cumF ps k ++ levF ps k := by unfold cumF; rw [List.range_succ, List.flatMap_append]; simp
/-- All consistent cuts, in order. -/
def cutsF (ps : List Pr) : List (List Int) := cumF ps (off ps ps.length + 1)
theorem mem_cutsF {ps : List Pr} (hv : validF ps = true) {c : List Int} : c ∈ cutsF ps ↔ isF ps c = true := by
  unfold cutsF cumF
  rw [List.mem_flatMap]
  constructor
  · rintro ⟨k, _, h⟩
    exact ((mem_levF hv k c).1 h).1
  · intro h
    have h1 := sum_le_off h
    have h2 : 0 ≤ c.sum := sum_nonneg c (isF_nonneg h)
    exact ⟨c.sum.toNat, List.mem_range.2 (by omega), (mem_levF hv _ c).2 ⟨h, by omega⟩⟩
theorem cumF_mono {ps : List Pr} {j : Nat} : ∀ {k : Nat}, j ≤ k → (cumF ps j).length ≤ (cumF ps k).length
  | 0, h => by
    have : j = 0 := by omega
    subst this; exact Nat.le_refl _
  | k + 1, h => by
    by_cases e : j = k + 1
    · subst e; exact Nat.le_refl _
    · have := cumF_mono (ps := ps) (j := j) (k := k) (by omega)
      rw [cumF_succ, List.length_append]; omega
theorem cumF_end {ps : List Pr} {j : Nat} (h : levF ps j = []) : ∀ m, cumF ps (j + m) = cumF ps j
  | 0 => rfl
  | m + 1 => by
    show cumF ps ((j + m) + 1) = _
    rw [cumF_succ, levF_nil h m, List.append_nil, cumF_end h m]
end Go.AL
end
section
/- Levels in order: sorted, without doubles, hence told by their members. Plain laws. No condition. -/
namespace Go.AL
open Go Go.RowKit
set_option maxRecDepth 4000
theorem lexF_iff : ∀ {a b : List Int}, a.length = b.length → (lexF a b = true ↔ cmpL a b < 0)
  | [], [], _ => by simp [lexF, cmpL]
  | [], _ :: _, h => by simp at h
  | _ :: _, [], h => by simp at h
  | x :: a, y :: b, h => by
    rw [cmpL_cons]
    unfold lexF
    by_cases e : x = y
    · subst e
      rw [if_pos rfl, if_neg (by omega), if_neg (by omega)]
      exact lexF_iff (by simpa using h)
    · rw [if_neg e, decide_eq_true_eq]
      by_cases c : x < y
      · rw [if_pos c]; omega
      · rw [if_neg c, if_pos (by omega)]; omega
/-- Strictly in order. -/
def Asc (l : List (List Int)) : Prop := l.Pairwise fun x y => cmpL x y < 0
theorem asc_eq {l m : List (List Int)} (h1 : Asc l) (h2 : Asc m) (h : ∀ x, x ∈ l ↔ x ∈ m) : l = m := by
  have hn : ∀ {l : List (List Int)}, Asc l → l.Nodup := fun {l} h => h.imp fun {a b} hab e => by subst e; rw [cmpL_irr] at hab; omega
  have hp : l.Perm m := (List.perm_ext_iff_of_nodup (hn h1) (hn h2)).2 h
  exact hp.eq_of_pairwise (fun a b _ _ h3 h4 => absurd (cmpL_trans _ _ _ h3 h4) (by rw [cmpL_irr]; omega)) h1 h2
theorem asc_comp (l : List (List Int)) : Asc (compL (sortL l)) := compN_pair (sortBy_pair swoL l) _ (Nat.le_refl _)
theorem mem_comp {l : List (List Int)} {x : List Int} : x ∈ compL (sortL l) ↔ x ∈ l := by rw [compL_mem]; exact (sortBy_perm cmpL l).mem_iff
theorem asc_ins {l : List (List Int)} {c : List Int} (h : Asc l) (hl : ∀ x ∈ l, x.length = c.length ∧ x.sum = c.sum) : Asc (insF l c) := by
  have hb : ∀ x ∈ l, (befF x c = true ↔ cmpL x c < 0) := fun x hx => by
    unfold befF; rw [if_pos (hl x hx).2]; exact lexF_iff (hl x hx).1
  unfold insF
  have hsp := List.takeWhile_append_dropWhile (p := fun x => befF x c) (l := l)
  split
  · exact h
  · rename_i hh
    generalize ht : l.takeWhile (fun x => befF x c) = t at *
    generalize hd : l.dropWhile (fun x => befF x c) = d at *
    have htm : ∀ x ∈ t, cmpL x c < 0 := fun x hx => by
      have h1 : x ∈ l := by rw [← hsp]; exact List.mem_append_left _ hx
      refine (hb x h1).1 ?_
      have := List.all_takeWhile (p := fun x => befF x c) (l := l)
      rw [ht] at this
      exact List.all_eq_true.1 this x hx
    unfold Asc at h ⊢
    rw [← hsp, List.pairwise_append] at h
    obtain ⟨a1, a2, a3⟩ := h
    have hdm : ∀ y ∈ d, cmpL c y < 0 := fun y hy => by
      cases d with
      | nil => cases hy
      | cons z d =>
        have hz : cmpL c z < 0 := by
          have hzl : z ∈ l := by rw [← hsp]; simp
          have hf : ¬ befF z c = true := by
            have := List.head?_dropWhile_not (fun x => befF x c) l
            rw [hd] at this
            simpa using this
          by_cases e : cmpL c z < 0
          · exact e
          · exact absurd (congrArg some (cmpL_anti z c (fun h => hf ((hb z hzl).2 h)) e)) hh
        rcases List.mem_cons.1 hy with rfl | hy
        · exact hz
        · exact cmpL_trans _ _ _ hz (List.rel_of_pairwise_cons a2 hy)
    rw [List.pairwise_append, List.pairwise_cons]
    refine ⟨a1, ⟨hdm, a2⟩, fun x hx y hy => ?_⟩
    rcases List.mem_cons.1 hy with rfl | hy
    · exact htm x hx
    · exact a3 x hx y hy
theorem asc_insL {n : Nat} {s : Int} : ∀ {l acc : List (List Int)}, Asc acc → (∀ x ∈ acc, x.length = n ∧ x.sum = s) → (∀ x ∈ l, x.length = n ∧ x.sum = s) → Asc (insL acc l)
  | [], _, h, _, _ => h
  | c :: l, acc, h, h1, h2 => by
    have hc := h2 c List.mem_cons_self
    show Asc (insL (insF acc c) l)
    refine asc_insL (asc_ins h fun x hx => by have := h1 x hx; omega) (fun x hx => ?_) fun x hx => h2 x (List.mem_cons_of_mem _ hx)
    rcases mem_insF.1 hx with hx | rfl
    · exact h1 x hx
    · exact hc
theorem asc_lev {ps : List Pr} (hv : validF ps = true) : ∀ k, Asc (levF ps k)
  | 0 => List.pairwise_singleton _ _
  | k + 1 => by
    have hm : ∀ (lv acc : List (List Int)), (∀ c ∈ lv, isF ps c = true ∧ c.sum = k) → Asc acc → (∀ x ∈ acc, x.length = ps.length ∧ x.sum = k + 1) → Asc (lv.foldl (fun acc c => insL acc (nextL ps c)) acc) := by
      intro lv
      induction lv with
      | nil => intro acc _ h _; exact h
      | cons c lv ih =>
        intro acc h1 h2 h3
        have hc := h1 c List.mem_cons_self
        have hnx : ∀ x ∈ nextL ps c, x.length = ps.length ∧ x.sum = k + 1 := fun x hx => by
          obtain ⟨p, hp, _, h4, rfl⟩ := mem_nextL.1 hx
          exact ⟨(isF_iff.1 h4).1, by rw [sum_stpC hp, hc.2]⟩
        refine ih _ (fun d hd => h1 d (List.mem_cons_of_mem _ hd)) (asc_insL h2 h3 hnx) fun x hx => ?_
        rcases mem_insL.1 hx with hx | hx
        · exact h3 x hx
        · exact hnx x hx
    exact hm (levF ps k) [] (fun c hc => (mem_levF hv k c).1 hc) List.Pairwise.nil fun x hx => by cases hx
/-- What comes of one level, put in order, is the next. -/
theorem next_lev {ps : List Pr} (hv : validF ps = true) (k : Nat) {l : List (List Int)} (h : ∀ x, x ∈ l ↔ ∃ c ∈ levF ps k, x ∈ nextL ps c) : compL (sortL l) = levF ps (k + 1) := by
  refine asc_eq (asc_comp l) (asc_lev hv (k + 1)) fun x => ?_
  rw [mem_comp, h]
  show _ ↔ x ∈ moreT ps (levF ps k)
  unfold moreT
  rw [mem_more]
  simp
end Go.AL
end
section
/- The library's sort of no rows at all. No condition. -/
namespace Go.AL
open Go Go.RowKit Go.Sort Go.Proofs Go.Shelf
set_option maxRecDepth 4000
theorem bits_zero : PC Go.Proofs.Tryz.prog 147 [.v (.int .u64 0)] (ai 0) := by
  refine PC.same (vs := [.int .u64 0]) (enters_of Go.Proofs.Tryz.func147 rfl rfl) (fun w A us h => ?_) fun w => ?_
  · obtain ⟨u, us, rfl, h1, h2⟩ := h.inv_cons
    obtain rfl := h2.inv_nil
    rw [h1.inv_v]
  · have L := sortRows
    have h := Any.bits_Len (SlLaysF0.n15.bits (P := Go.Proofs.Tryz.prog) (ρ := sortRows_ren) { L with }) 0 w (by omega) (by omega)
    exact h
theorem insert_nil (g : FuncId) : PC Go.Proofs.Tryz.prog 156 [anil, ai 0, ai 0, .v (.func (.func g) #[] #[])] (.tup []) := by
  refine PC.enter 53 [] [] Go.Proofs.Tryz.func156 rfl rfl rfl rfl rfl (by simp) (AWp.of ?_); simp only [go_sem]
  repeat (first | ((with_reducible refine AWp.ofC ?_ ?_); (focus exact rfl); simp only [go_sem]) | ((with_reducible refine an ?_ ?_); focus exact Au))
  refine AWp.block (AWp.loopN [8] [0, 1, 2, 3] (fun _ vs L => L = [] ∧ vs = [ai 1]) 0 ⟨rfl, rfl⟩ ?_)
  rintro m vs L - ⟨rfl, rfl⟩
  simp only [go_sem]
  repeat (first | ((with_reducible refine AWp.ofC ?_ ?_); (focus exact rfl); simp only [go_sem]) | ((with_reducible refine an ?_ ?_); focus exact Au))
  intro _
  refine ret_eq ?_; simp only [go_sem]
theorem pdq_nil (g : FuncId) : PC Go.Proofs.Tryz.prog 146 [anil, ai 0, ai 0, ai 0, .v (.func (.func g) #[] #[])] (.tup []) := by
  refine PC.enter 148 [] [] Go.Proofs.Tryz.func146 rfl rfl rfl rfl rfl (by simp) (AWp.of ?_); simp only [go_sem]
  repeat (first | ((with_reducible refine AWp.ofC ?_ ?_); (focus exact rfl); simp only [go_sem]) | ((with_reducible refine an ?_ ?_); focus exact Au))
  refine AWp.block (AWp.loopN [1, 2, 3, 10, 11] [0, 4] (fun _ vs L => L = [] ∧ vs = [ai 0, ai 0, ai 0, ab true, ab true]) 0 ⟨rfl, rfl⟩ ?_)
  rintro m vs L - ⟨rfl, rfl⟩
  simp only [go_sem]
  repeat (first | ((with_reducible refine AWp.ofC ?_ ?_); (focus exact rfl); simp only [go_sem]) | ((with_reducible refine an ?_ ?_); focus exact Au))
  refine ⟨fun h => ?_, fun h => ?_⟩
  · repeat (first | ((with_reducible refine AWp.ofC ?_ ?_); (focus exact rfl); simp only [go_sem]) | ((with_reducible refine an ?_ ?_); focus exact Au))
    repeat ((with_reducible refine an ?_ ?_); focus exact As)
    refine (insert_nil g).val.use ?_; simp only [go_sem]
    repeat (first | ((with_reducible refine AWp.ofC ?_ ?_); (focus exact rfl); simp only [go_sem]) | ((with_reducible refine an ?_ ?_); focus exact Au))
    refine ret_eq ?_; simp only [go_sem]
  · exact absurd (by omega) h
theorem sort_nil (g : FuncId) : PC Go.Proofs.Tryz.prog 125 [anil, .v (.func (.func g) #[] #[])] (.tup []) := by
  refine PC.enter 14 [] [] Go.Proofs.Tryz.func125 rfl rfl rfl rfl rfl (by simp) (AWp.of ?_); simp only [go_sem]
  repeat (first | ((with_reducible refine AWp.ofC ?_ ?_); (focus exact rfl); simp only [go_sem]) | ((with_reducible refine an ?_ ?_); focus exact Au))
  repeat ((with_reducible refine an ?_ ?_); focus exact As)
  refine (bits_zero).val.use ?_; simp only [go_sem]
  repeat (first | ((with_reducible refine AWp.ofC ?_ ?_); (focus exact rfl); simp only [go_sem]) | ((with_reducible refine an ?_ ?_); focus exact Au))
  repeat ((with_reducible refine an ?_ ?_); focus exact As)
  refine (pdq_nil g).val.use ?_; simp only [go_sem]
  repeat (first | ((with_reducible refine AWp.ofC ?_ ?_); (focus exact rfl); simp only [go_sem]) | ((with_reducible refine an ?_ ?_); focus exact Au))
  refine ret_eq ?_; simp only [go_sem]
theorem compact_nil (g : FuncId) : PC Go.Proofs.Tryz.prog 128 [anil, .v (.func (.func g) #[] #[])] anil := by
  refine PC.enter 66 [.tmp 4] [] Go.Proofs.Tryz.func128 rfl rfl rfl rfl rfl (by simp) (AWp.of ?_); simp only [go_sem]
  repeat (first | ((with_reducible refine AWp.ofC ?_ ?_); (focus exact rfl); simp only [go_sem]) | ((with_reducible refine an ?_ ?_); focus exact Au))
  refine ⟨fun h => ?_, fun h => ?_⟩
  · repeat (first | ((with_reducible refine AWp.ofC ?_ ?_); (focus exact rfl); simp only [go_sem]) | ((with_reducible refine an ?_ ?_); focus exact Au))
    refine ret_eq ?_; simp only [go_sem]
  · exact absurd (by omega) h
end Go.AL
end
section
/- The package cuts: what it keeps of a trace, and when one more event may be taken. No condition. -/
namespace Go.AL
open Go Go.RowKit
set_option maxRecDepth 4000
def needE (ps : List Pr) (e : Ev) : Eid := if e.kind = 3 then sndr ps e.msg else (0, 0)
def aNeeds (ps : List Pr) (l : List Pr) : List AV := l.map fun x => aEids (x.evs.map (needE ps))
def aMk (ps : List Pr) : AV := .agg [.sl 1 (ps.map fun x => ai (x.evs.length : Nat)), .sl 1 (aNeeds ps ps)]
theorem AppSt.snoc {t : TypeId} {k : Nat} {ys : List AV} {x : AV} (b cap n : Nat) (hn : n = ys.length + 1) : AppSt t k (ys ++ [x]) (.ls b k 0 n cap) [(b, .row t k (ys ++ [x]) cap)] := by
  subst hn
  have := AppSt.row (t := t) (k := k) b (ys ++ [x]) cap
  rwa [List.length_append] at this
def mkL (ps : List Pr) (b2 b3 p : Nat) (L : AHeap) : Prop :=
  (p = 0 ∧ L = [(b3, .row 137 2 [.agg [anil, anil]] 1), (b2, .row 137 2 [.agg [anil, anil]] 1)]) ∨
  ∃ c1 c2 cap1 cap2, (¬ c1 = b3 ∧ ¬ c1 = b2 ∧ ¬ c2 = b3 ∧ ¬ c2 = b2 ∧ ¬ c1 = c2) ∧ L = [(c2, .row 60 1 (aNeeds ps (ps.take p)) cap2), (c1, .row 3 1 ((ps.take p).map fun x => ai (x.evs.length : Nat)) cap1),
    (b3, .row 137 2 [.agg [.ls c1 1 0 p cap1, .ls c2 1 0 p cap2]] 1), (b2, .row 137 2 [.agg [anil, anil]] 1)]
theorem cuts_of (ps : List Pr) (hs : Sm ps) (hv : validF ps = true) : PC Go.Proofs.Tryz.prog 101 [aTr ps] (aMk ps) := by
  obtain ⟨hl1, hl8⟩ := valid_len hv
  have hfs : ∀ m, findV ps 2 m = sndr ps m := fun m => by unfold findV sndr; rw [if_pos hv]
  have hsd := trace_Sender ps hs
  simp only [hfs] at hsd
  refine PC.enter 55 [.cell 2 137] [1, 5, 8, 9, 36, 44, 50] Go.Proofs.Tryz.func101 rfl rfl rfl rfl rfl (by simp) (AWp.of ?_); simp only [go_sem]
  intro b2
  repeat (first | ((with_reducible refine AWp.ofC ?_ ?_); (focus exact rfl); simp only [go_sem]) | ((with_reducible refine an ?_ ?_); focus exact Au))
  intro b3 g1
  have n1 : ¬ b3 = b2 := by omega
  have n2 : ¬ b2 = b3 := by omega
  repeat (first | ((with_reducible refine AWp.ofC ?_ ?_); (focus exact rfl); simp only [go_sem]) | ((with_reducible refine an ?_ ?_); focus exact Au))
  refine AWp.range' ps.length [] [1, 2, 3, 11, 12] (fun p vs L => vs = [] ∧ mkL ps b2 b3 p L) (by omega) rfl rfl rfl ⟨rfl, .inl ⟨rfl, rfl⟩⟩ ?_ ?_
  · rintro p vs L hp - ⟨rfl, hL⟩
    have hgp := getD_map (f := aPr) hp
    simp only [go_sem]
    repeat (first | ((with_reducible refine AWp.ofC ?_ ?_); (focus exact rfl); simp only [go_sem, hgp]) | ((with_reducible refine an ?_ ?_); focus exact Au))
    intro b5 g5
    have hel := hs.evs _ (List.getElem_mem hp)
    repeat ((with_reducible refine an ?_ ?_); focus exact As)
    refine AWp.of ?_; simp only [go_sem]
    refine AWp.cutF [1, 2, 3, 5, 6, 11, 12, 13] (fun vs L1 => ∃ v, AppSt 66 2 ((ps[p].evs.map (needE ps)).map aEid) v L1 ∧
      vs = [.rp 1 [aTr ps] 0 0, .lp b2 2 0 0, .lp b3 2 0 0, .rp 3 [aPr ps[p]] 0 0, v, aPrs ps, ai (ps.length : Nat), ai (p : Nat)]) ?_ ?_
    · repeat (first | ((with_reducible refine AWp.ofC ?_ ?_); (focus exact rfl); simp only [go_sem]) | ((with_reducible refine an ?_ ?_); focus exact Au))
      refine AWp.range' ps[p].evs.length [6] [1, 2, 3, 5, 11, 12, 13, 18, 19] (fun i vs L => ∃ v, vs = [v] ∧ AppSt 66 2 (((ps[p].evs.take i).map (needE ps)).map aEid) v L) (by omega) rfl rfl rfl ⟨anil, rfl, by rw [List.take_zero]; exact .nil⟩ ?_ ?_
      · rintro i vs L hi - ⟨v, rfl, hA⟩
        have hge := getD_map (f := aEv) hi
        have hne : needE ps ps[p].evs[i] = if ps[p].evs[i].kind = 3 then sndr ps ps[p].evs[i].msg else (0, 0) := rfl
        have hsn := hsd ps[p].evs[i].msg
        have htk : ((ps[p].evs.take (i + 1)).map (needE ps)).map aEid = ((ps[p].evs.take i).map (needE ps)).map aEid ++ [aEid (needE ps ps[p].evs[i])] := by
          rw [List.take_succ_eq_append_getElem hi, List.map_append, List.map_append]; rfl
        have hyl : (((ps[p].evs.take i).map (needE ps)).map aEid).length = i := by simp; omega
        rw [htk]
        generalize ((ps[p].evs.take i).map (needE ps)).map aEid = ys at *
        generalize needE ps ps[p].evs[i] = ne at *
        rcases hA.inv with ⟨e1, rfl, rfl⟩ | ⟨bq, capq, rfl, rfl⟩
        · simp only [go_sem]
          repeat (first | ((with_reducible refine AWp.ofC ?_ ?_); (focus exact rfl); simp only [go_sem, hge]) | ((with_reducible refine an ?_ ?_); focus exact Au))
          intro b8
          repeat (first | ((with_reducible refine AWp.ofC ?_ ?_); (focus exact rfl); simp only [go_sem]) | ((with_reducible refine an ?_ ?_); focus exact Au))
          intro b9
          repeat (first | ((with_reducible refine AWp.ofC ?_ ?_); (focus exact rfl); simp only [go_sem]) | ((with_reducible refine an ?_ ?_); focus exact Au))
          refine ⟨fun h3 => ?_, fun h3 => ?_⟩
          · rw [if_pos h3] at hne
            subst hne
            generalize sndr ps ps[p].evs[i].msg = sx at *
            obtain ⟨s1, s2⟩ := sx
            repeat ((with_reducible refine an ?_ ?_); focus exact As)
            refine (hsn).val.use ?_; simp only [go_sem]
            repeat (first | ((with_reducible refine AWp.ofC ?_ ?_); (focus exact rfl); simp only [go_sem]) | ((with_reducible refine an ?_ ?_); focus exact Au))
            intro b' cap' hc'
            exact ⟨_, List.cons_sublist_cons.2 (List.nil_sublist _), _, rfl, by rw [e1]; exact .row b' [_] cap'⟩
          · rw [if_neg h3] at hne
            subst hne
            repeat (first | ((with_reducible refine AWp.ofC ?_ ?_); (focus exact rfl); simp only [go_sem]) | ((with_reducible refine an ?_ ?_); focus exact Au))
            intro b' cap' g' hc'
            exact ⟨_, List.cons_sublist_cons.2 (List.nil_sublist _), _, rfl, by rw [e1]; exact .row b' [_] cap'⟩
        · simp only [go_sem]
          repeat (first | ((with_reducible refine AWp.ofC ?_ ?_); (focus exact rfl); simp only [go_sem, hge]) | ((with_reducible refine an ?_ ?_); focus exact Au))
          intro b8 g8
          repeat (first | ((with_reducible refine AWp.ofC ?_ ?_); (focus exact rfl); simp only [go_sem]) | ((with_reducible refine an ?_ ?_); focus exact Au))
          intro b9 g9
          have n3 : ¬ b9 = bq := by omega
          have n4 : ¬ bq = b9 := by omega
          repeat (first | ((with_reducible refine AWp.ofC ?_ ?_); (focus exact rfl); simp only [go_sem]) | ((with_reducible refine an ?_ ?_); focus exact Au))
          refine ⟨fun h3 => ?_, fun h3 => ?_⟩
          · rw [if_pos h3] at hne
            subst hne
            generalize sndr ps ps[p].evs[i].msg = sx at *
            obtain ⟨s1, s2⟩ := sx
            repeat ((with_reducible refine an ?_ ?_); focus exact As)
            refine (hsn).val.use ?_; simp only [go_sem]
            repeat (first | ((with_reducible refine AWp.ofC ?_ ?_); (focus exact rfl); simp only [go_sem]) | ((with_reducible refine an ?_ ?_); focus exact Au))
            intro b' cap' hc'
            exact ⟨_, List.cons_sublist_cons.2 (List.nil_sublist _), _, rfl, AppSt.snoc b' cap' _ rfl⟩
          · rw [if_neg h3] at hne
            subst hne
            repeat (first | ((with_reducible refine AWp.ofC ?_ ?_); (focus exact rfl); simp only [go_sem, n3, n4]) | ((with_reducible refine an ?_ ?_); focus exact Au))
            intro b' cap' g' hc'
            exact ⟨_, List.cons_sublist_cons.2 (List.nil_sublist _), _, rfl, AppSt.snoc b' cap' _ rfl⟩
      · rintro vs L - ⟨v, rfl, hA⟩
        rw [List.take_length] at hA
        simp only [go_sem]
        exact ⟨L, List.Sublist.refl _, v, hA, rfl⟩
    · rintro vs L1 - ⟨v, hA, rfl⟩
      simp only [go_sem]
      refine AWp.viewA (j := 6) hA rfl ?_
      clear g5
      have hs1 : ((ps.take (p + 1)).map fun x => ai (x.evs.length : Nat)) = ((ps.take p).map fun x => ai (x.evs.length : Nat)) ++ [ai (ps[p].evs.length : Nat)] := by
        rw [List.take_succ_eq_append_getElem hp, List.map_append]; rfl
      have hs2 : aNeeds ps (ps.take (p + 1)) = aNeeds ps (ps.take p) ++ [.sl 2 ((ps[p].evs.map (needE ps)).map aEid)] := by
        unfold aNeeds; rw [List.take_succ_eq_append_getElem hp, List.map_append]; rfl
      have hy1 : ((ps.take p).map fun x => ai (x.evs.length : Nat)).length = p := by simp; omega
      have hy2 : (aNeeds ps (ps.take p)).length = p := by simp [aNeeds]; omega
      unfold mkL
      rw [hs1, hs2]
      generalize ((ps[p].evs.map (needE ps)).map aEid) = ne at *
      rcases hL with ⟨rfl, rfl⟩ | ⟨c1, c2, cap1, cap2, ⟨d1, d2, d3, d4, d5⟩, rfl⟩
      · have e1 := List.eq_nil_of_length_eq_zero hy1
        have e2 := List.eq_nil_of_length_eq_zero hy2
        rw [e1, e2]
        simp only [go_sem]
        repeat (first | ((with_reducible refine AWp.ofC ?_ ?_); (focus exact rfl); simp only [go_sem, n1]) | ((with_reducible refine an ?_ ?_); focus exact Au))
        intro c1 k1 h31 h21 hk1
        have d1 : ¬ c1 = b3 := by omega
        have d2 : ¬ c1 = b2 := by omega
        have d7 : ¬ b3 = c1 := by omega
        have d9 : ¬ b2 = c1 := by omega
        simp only [go_sem, d7]
        repeat (first | ((with_reducible refine AWp.ofC ?_ ?_); (focus exact rfl); simp only [go_sem, n1, d7]) | ((with_reducible refine an ?_ ?_); focus exact Au))
        intro c2 k2 h12 h32 h22 hk2
        have d3 : ¬ c2 = b3 := by omega
        have d4 : ¬ c2 = b2 := by omega
        have d5 : ¬ c1 = c2 := by omega
        have d8 : ¬ b3 = c2 := by omega
        simp only [go_sem, d8]
        exact ⟨_, List.Sublist.refl _, c1, c2, k1, k2, ⟨d1, d2, d3, d4, d5⟩, rfl⟩
      · generalize ((ps.take p).map fun x => ai (x.evs.length : Nat)) = ys1 at *
        generalize aNeeds ps (ps.take p) = ys2 at *
        have ht1 : ys1.take p = ys1 := List.take_of_length_le (by omega)
        have ht2 : ys2.take p = ys2 := List.take_of_length_le (by omega)
        have d6 : ¬ c2 = c1 := fun e => d5 e.symm
        have d7 : ¬ b3 = c1 := fun e => d1 e.symm
        have d8 : ¬ b3 = c2 := fun e => d3 e.symm
        have d9 : ¬ b2 = c1 := fun e => d2 e.symm
        have d10 : ¬ b2 = c2 := fun e => d4 e.symm
        repeat (first | ((with_reducible refine AWp.ofC ?_ ?_); (focus exact rfl); simp only [go_sem, n1, d1, d2, d5, d7, d8, ht1]) | ((with_reducible refine an ?_ ?_); focus exact Au))
        intro x1 k1 h21 h31 h41 hk1
        have d1 : ¬ x1 = b3 := fun e => h31 e.symm
        have d2 : ¬ x1 = b2 := fun e => h41 e.symm
        have d11 : ¬ x1 = c2 := fun e => h21 e.symm
        simp only [go_sem, h31]
        repeat (first | ((with_reducible refine AWp.ofC ?_ ?_); (focus exact rfl); simp only [go_sem, n1, d3, d4, d8, h31, h21, ht2]) | ((with_reducible refine an ?_ ?_); focus exact Au))
        intro x2 k2 h12 h32 h42 hk2
        simp only [go_sem, h32]
        exact ⟨_, List.Sublist.refl _, x1, x2, k1, k2, ⟨d1, d2, fun e => h32 e.symm, fun e => h42 e.symm, h12⟩, rfl⟩
  · rintro vs L - ⟨rfl, hL⟩
    rcases hL with ⟨h0, rfl⟩ | ⟨c1, c2, cap1, cap2, ⟨d1, d2, d3, d4, d5⟩, rfl⟩
    · omega
    have d6 : ¬ c2 = c1 := fun e => d5 e.symm
    have d7 : ¬ b3 = c1 := fun e => d1 e.symm
    have d8 : ¬ b3 = c2 := fun e => d3 e.symm
    have d9 : ¬ b2 = c1 := fun e => d2 e.symm
    have d10 : ¬ b2 = c2 := fun e => d4 e.symm
    rw [List.take_length]
    have hy1 : (ps.map fun x => ai (x.evs.length : Nat)).length = ps.length := List.length_map _
    have hy2 : (aNeeds ps ps).length = ps.length := List.length_map _
    unfold aMk
    generalize (ps.map fun x => ai (x.evs.length : Nat)) = ys1 at *
    generalize aNeeds ps ps = ys2 at *
    simp only [go_sem]
    repeat (first | ((with_reducible refine AWp.ofC ?_ ?_); (focus exact rfl); simp only [go_sem, n1, n2, d7, d8, d9, d10]) | ((with_reducible refine an ?_ ?_); focus exact Au))
    refine ret_view [true, true, true, true] ?_; simp only [go_sem]
    simp only [go_sem, n2, d9, d10]
    exact .mkAgg (Vws.cons (Vw.ofLs (t := 3) (cap := cap1) (by simp only [lk, d5, if_false, if_true]) hy1.symm) (Vws.cons (Vw.ofLs (t := 60) (cap := cap2) (if_pos rfl) hy2.symm) .nil))
end Go.AL
end
section
/- The package cuts: whether one more event of a process may be taken, and the level after a level. No condition. -/
namespace Go.AL
open Go Go.RowKit
set_option maxRecDepth 4000
theorem cAt_stp {c : List Int} {p q : Nat} (hq : q < c.length) : cAt (stpC c p) q = if p = q then cAt c q + 1 else cAt c q := by
  unfold stpC
  rw [setc_cAt hq]
  split
  · rename_i e; rw [e]
  · rfl
theorem stp_iff {ps : List Pr} (hv : validF ps = true) {c : List Int} (hc : isF ps c = true) {p : Nat} (hp : p < ps.length) {i : Nat} (hi : i < ps[p].evs.length) (hci : cAt c p = i) :
    isF ps (stpC c p) = true ↔ (needE ps ps[p].evs[i]).2 ≤ cAt c (needE ps ps[p].evs[i]).1 := by
  obtain ⟨h1, h2, h3⟩ := isF_iff.1 hc
  have hm := (valid_parts hv).2.2
  have hr := (inRange_iff h1).1 h2
  have hlen : (stpC c p).length = ps.length := by unfold stpC; rw [List.length_set, h1]
  have hmono : ∀ q, q < ps.length → cAt c q ≤ cAt (stpC c p) q := fun q hq => by rw [cAt_stp (by omega)]; split <;> omega
  unfold needE
  constructor
  · intro h
    obtain ⟨_, _, g3⟩ := isF_iff.1 h
    by_cases hk : ps[p].evs[i].kind = 3
    · rw [if_pos hk]
      have := closed_iff.1 g3 p hp i hi hk (by rw [cAt_stp (by omega), if_pos rfl, hci]; omega)
      obtain ⟨s, hs, j, hj, e, hk2, _⟩ := sndr_some (recv_sndr hm hp hi hk)
      rw [e] at this ⊢
      dsimp only at this ⊢
      rw [cAt_stp (by omega)] at this
      split at this
      · rename_i es; subst es
        by_cases hji : j = i
        · subst hji; omega
        · omega
      · exact this
    · rw [if_neg hk]
      have := (hr 0 (by omega)).1
      simpa using this
  · intro h
    refine isF_iff.2 ⟨hlen, (inRange_iff hlen).2 fun q hq => ?_, closed_iff.2 fun q hq i' hi' hk hle => ?_⟩
    · have := hr q hq
      rw [cAt_stp (by omega)]
      split
      · rename_i e; subst e; omega
      · exact this
    · obtain ⟨s, hs, j, hj, e, hk2, _⟩ := sndr_some (recv_sndr hm hq hi' hk)
      have hms := hmono s hs
      by_cases hnew : q = p ∧ i' = i
      · obtain ⟨rfl, rfl⟩ := hnew
        rw [if_pos hk, e] at h
        rw [e]; dsimp only at h ⊢; omega
      · have := closed_iff.1 h3 q hq i' hi' hk (by
          rw [cAt_stp (by omega)] at hle
          split at hle
          · rename_i e2; subst e2
            have : i' ≠ i := fun e => hnew ⟨rfl, e⟩
            omega
          · exact hle)
        rw [e] at this ⊢; dsimp only at this ⊢; omega
/-- Whether one more event of a process may be taken. -/
def rdyF (ps : List Pr) (c : List Int) (p : Nat) : Bool := decide (cAt c p < nev ps p ∧ isF ps (stpC c p) = true)
theorem need_in {ps : List Pr} (hv : validF ps = true) {p : Nat} (hp : p < ps.length) {i : Nat} (hi : i < ps[p].evs.length) : 0 ≤ (needE ps ps[p].evs[i]).1 ∧ (needE ps ps[p].evs[i]).1 < ps.length := by
  have hm := (valid_parts hv).2.2
  unfold needE
  split
  · rename_i hk
    obtain ⟨s, hs, j, hj, e, hk2, _⟩ := sndr_some (recv_sndr hm hp hi hk)
    rw [e]; dsimp only; omega
  · dsimp only; omega
theorem maker_ready (ps : List Pr) (hs : Sm ps) (hv : validF ps = true) (c : List Int) (hc : isF ps c = true) (p : Nat) (hp : p < ps.length) : PC Go.Proofs.Tryz.prog 124 [aMk ps, aInts c, ai (p : Nat)] (ab (rdyF ps c p)) := by
  obtain ⟨h1, h2, h3⟩ := isF_iff.1 hc
  have hr := (inRange_iff h1).1 h2 p hp
  obtain ⟨i, hci⟩ : ∃ i : Nat, cAt c p = i := ⟨(cAt c p).toNat, by omega⟩
  have hpc : p < c.length := by omega
  have hcp : c[p] = (i : Int) := by rw [← cAt_nat hpc]; exact hci
  have hel := hs.evs _ (List.getElem_mem hp)
  have g1 : (c.map ai).getD p .any = ai i := by rw [getD_map hpc, hcp]
  have g2 : (ps.map fun x => ai (x.evs.length : Nat)).getD p .any = ai (ps[p].evs.length : Nat) := getD_map (f := fun x : Pr => ai (x.evs.length : Nat)) hp
  have g3 : (aNeeds ps ps).getD p .any = aEids (ps[p].evs.map (needE ps)) := getD_map (f := fun x : Pr => aEids (x.evs.map (needE ps))) hp
  have hnl : (aNeeds ps ps).length = ps.length := List.length_map _
  have hrd : rdyF ps c p = decide (i < ps[p].evs.length ∧ isF ps (stpC c p) = true) := by
    unfold rdyF; rw [hci, nev_get hp]; congr 2; exact propext ⟨fun h => by omega, fun h => by omega⟩
  rw [hrd]
  unfold aMk
  refine PC.enter 37 [.tmp 6] [3, 7] Go.Proofs.Tryz.func124 rfl rfl rfl rfl rfl (by simp) (AWp.of ?_); simp only [go_sem]
  repeat (first | ((with_reducible refine AWp.ofC ?_ ?_); (focus exact rfl); simp only [go_sem, g1, g2, hnl]) | ((with_reducible refine an ?_ ?_); focus exact Au))
  refine AWp.seq (AWp.seq ?_)
  repeat (first | (with_reducible refine AWp.seq ?_) | (with_reducible refine AWp.block ?_))
  refine AWp.read mixed [0, 1, 2, 3, 4, 5, 6, 7, 8, 9] (by kernel_rfl) ?_; simp only [go_sem, g1, g2]
  repeat ((with_reducible refine an ?_ ?_); focus exact As)
  repeat (first | ((with_reducible refine AWp.ofC ?_ ?_); (focus exact rfl); simp only [go_sem]) | ((with_reducible refine an ?_ ?_); focus exact Au))
  refine ⟨fun h => ?_, fun h => ?_⟩
  · have : (decide (i < ps[p].evs.length) && isF ps (stpC c p)) = false := by rw [decide_eq_false (by omega)]; rfl
    rw [this]
    repeat (first | ((with_reducible refine AWp.ofC ?_ ?_); (focus exact rfl); simp only [go_sem]) | ((with_reducible refine an ?_ ?_); focus exact Au))
    refine ret_eq ?_; simp only [go_sem]
  · have hi : i < ps[p].evs.length := by
      have h5 := hr.2
      rw [hci] at h5
      omega
    have hst := stp_iff hv hc hp hi hci
    have hin := need_in hv hp hi
    have g4 : ((ps[p].evs.map (needE ps)).map aEid).getD i .any = aEid (needE ps ps[p].evs[i]) := by rw [List.map_map]; exact getD_map (f := fun e => aEid (needE ps e)) hi
    have g5 : ((ps[p].evs.map (needE ps)).map aEid).length = ps[p].evs.length := by rw [List.length_map, List.length_map]
    have e1 : decide (i < ps[p].evs.length) = true := decide_eq_true hi
    have e2 : isF ps (stpC c p) = decide ((needE ps ps[p].evs[i]).2 ≤ cAt c (needE ps ps[p].evs[i]).1) := by
      by_cases hb : isF ps (stpC c p) = true
      · rw [hb]; exact (decide_eq_true (hst.1 hb)).symm
      · rw [Bool.not_eq_true] at hb
        rw [hb]; exact (decide_eq_false fun h => by rw [hst.2 h] at hb; cases hb).symm
    rw [e1, e2, Bool.true_and]
    generalize needE ps ps[p].evs[i] = ne at *
    obtain ⟨n1, n2⟩ := ne
    have g6 := getD_cAt (c := c) hin.1 (by omega)
    dsimp only at hin
    repeat (first | ((with_reducible refine AWp.ofC ?_ ?_); (focus exact rfl); simp only [go_sem]) | ((with_reducible refine an ?_ ?_); focus exact Au))
    refine AWp.seq ?_
    repeat (first | (with_reducible refine AWp.seq ?_) | (with_reducible refine AWp.block ?_))
    refine AWp.mix mixed [0, 1, 2, 3, 4, 5, 6, 7, 8, 9, 10] (.step 11 (.step 12 .done .done) .done) (by kernel_rfl) ?_; simp only [go_sem, g1, g3, g4, g5, hnl]
    repeat ((with_reducible refine an ?_ ?_); focus exact As)
    intro b7
    refine AWp.seq ?_
    repeat (first | (with_reducible refine AWp.seq ?_) | (with_reducible refine AWp.block ?_))
    refine AWp.read mixed [0, 1, 2, 3, 4, 5, 6, 7, 8] (by kernel_rfl) ?_; simp only [go_sem, g6]
    repeat ((with_reducible refine an ?_ ?_); focus exact As)
    repeat (first | ((with_reducible refine AWp.ofC ?_ ?_); (focus exact rfl); simp only [go_sem]) | ((with_reducible refine an ?_ ?_); focus exact Au))
    refine ret_eq ?_; simp only [go_sem]
end Go.AL
end
section
/- The package cuts: the level after a level. No condition. -/
namespace Go.AL
open Go Go.RowKit
set_option maxRecDepth 4000
def chl (ps : List Pr) (lv : List (List Int)) (i : Nat) : List (List Int) := (lv.take i).flatMap (nextL ps)
theorem chl_succ {ps : List Pr} {lv : List (List Int)} {i : Nat} (hi : i < lv.length) : chl ps lv (i + 1) = chl ps lv i ++ nextL ps lv[i] := by
  unfold chl; rw [List.take_succ_eq_append_getElem hi, List.flatMap_append]; simp
theorem chl_len {ps : List Pr} {lv : List (List Int)} (h : ∀ c ∈ lv, c.length ≤ 8) : ∀ i, i ≤ lv.length → (chl ps lv i).length ≤ 8 * i
  | 0, _ => by simp [chl]
  | i + 1, hi => by
    have := chl_len (ps := ps) h i (by omega)
    have h2 := nextT_len ps lv[i] lv[i].length
    have h3 := h lv[i] (List.getElem_mem _)
    rw [chl_succ (by omega), List.length_append]
    unfold nextL
    omega
theorem mem_chl {ps : List Pr} {lv : List (List Int)} {x : List Int} : x ∈ chl ps lv lv.length ↔ ∃ c ∈ lv, x ∈ nextL ps c := by unfold chl; rw [List.take_length, List.mem_flatMap]
theorem Vw.front {L : AHeap} {b k n c : Nat} {t : TypeId} {xs ws : List AV} {cap : Nat} (h : lk L b = some (.row t k (xs ++ ws) cap)) (hn : n = xs.length) : Vw L (.ls b k 0 n c) (.sl k xs) := by
  have e : ((xs ++ ws).drop 0).take n = xs := by rw [List.drop_zero, hn, List.take_left]
  exact .ls h (by rw [List.length_append]; omega) (by rw [e]) (by rw [e]; exact (Vws.refl xs).2)
theorem maker_next (ps : List Pr) (hs : Sm ps) (hv : validF ps = true) (k : Nat) (hk : (levF ps k).length ≤ 5000) : PC Go.Proofs.Tryz.prog 102 [aMk ps, aRows (levF ps k)] (aRows (levF ps (k + 1))) := by
  obtain ⟨hl1, hl8⟩ := valid_len hv
  have hlev : ∀ c ∈ levF ps k, isF ps c = true := fun c h => ((mem_levF hv k c).1 h).1
  have hnl := next_lev hv k (l := chl ps (levF ps k) (levF ps k).length) fun x => mem_chl
  have hcl := chl_len (ps := ps) (lv := levF ps k) fun c hc => by rw [(isF_iff.1 (hlev c hc)).1]; exact hl8
  have hall : ∀ x ∈ chl ps (levF ps k) (levF ps k).length, x.length ≤ 1000000 := fun x hx => by
    obtain ⟨c, hc, hx⟩ := mem_chl.1 hx
    obtain ⟨p, _, _, h4, rfl⟩ := mem_nextL.1 hx
    rw [(isF_iff.1 h4).1]; omega
  rw [← hnl]
  clear hnl
  generalize levF ps k = lv at *
  unfold aMk
  refine PC.enter 43 [.tmp 4] [2, 35] Go.Proofs.Tryz.func102 rfl rfl rfl rfl rfl (by simp) (AWp.of ?_); simp only [go_sem]
  repeat (first | ((with_reducible refine AWp.ofC ?_ ?_); (focus exact rfl); simp only [go_sem]) | ((with_reducible refine an ?_ ?_); focus exact Au))
  refine AWp.range' lv.length [5] [2, 10, 11] (fun i vs L => ∃ v, vs = [v] ∧ AppSt 42 1 ((chl ps lv i).map aInts) v L) (by omega) rfl rfl rfl ⟨anil, rfl, by exact .nil⟩ ?_ ?_
  · rintro i vs L hi - ⟨v, rfl, hA⟩
    have hgi := getD_map (f := aInts) hi
    have hci := hlev _ (List.getElem_mem hi)
    have hcli := hcl i (by omega)
    have hlc := (isF_iff.1 hci).1
    rw [chl_succ hi]
    have hnx : nextL ps lv[i] = nextT ps lv[i] lv[i].length := rfl
    rw [hnx]
    generalize lv[i] = c at *
    simp only [go_sem]
    repeat (first | ((with_reducible refine AWp.ofC ?_ ?_); (focus exact rfl); simp only [go_sem, hgi]) | ((with_reducible refine an ?_ ?_); focus exact Au))
    refine AWp.range' c.length [5] [2, 7, 10, 11, 12, 17] (fun p vs L => ∃ v, vs = [v] ∧ AppSt 42 1 ((chl ps lv i ++ nextT ps c p).map aInts) v L) (by omega) rfl rfl rfl ⟨v, rfl, by rw [show nextT ps c 0 = [] from rfl, List.append_nil]; exact hA⟩ ?_ ?_
    · clear hA
      rintro p vs L hp - ⟨v, rfl, hA⟩
      have hrd := maker_ready ps hs hv c hci p (by omega)
      have hrl := nextT_len ps c p
      simp only [go_sem]
      unfold aMk at hrd
      have hn1 : nextT ps c (p + 1) = nextT ps c p ++ if rdyF ps c p = true then [stpC c p] else [] := by
        rw [nextT_succ]; unfold nx1 rdyF; simp only [decide_eq_true_eq]
      rw [hn1]
      have hrg := (inRange_iff hlc).1 (isF_iff.1 hci).2.1 p (by omega)
      have hel := hs.evs _ (List.getElem_mem (show p < ps.length by omega))
      have hcp : cAt c p = c[p] := cAt_nat hp
      have hgp := getD_map (f := ai) hp
      have hst : ((c.map ai).set p (ai (c[p] + 1))) = (stpC c p).map ai := by unfold stpC; rw [List.map_set, hcp]
      have hsl : (stpC c p).length = c.length := by unfold stpC; rw [List.length_set]
      generalize nextT ps c p = nt at *
      repeat (first | ((with_reducible refine AWp.ofC ?_ ?_); (focus exact rfl); simp only [go_sem]) | ((with_reducible refine an ?_ ?_); focus exact Au))
      repeat ((with_reducible refine an ?_ ?_); focus exact As)
      refine (hrd).val.use ?_; simp only [go_sem]
      generalize rdyF ps c p = rb at *
      repeat (first | ((with_reducible refine AWp.ofC ?_ ?_); (focus exact rfl); simp only [go_sem]) | ((with_reducible refine an ?_ ?_); focus exact Au))
      refine ⟨fun hb => ?_, fun hb => ?_⟩
      · rw [if_pos hb]
        refine (MVal.frame (Lm := []) (Lr := L) (ints_cloneO c (by omega)).val).mono ?_
        rintro r L' ⟨L1, rfl, hC⟩
        rcases hC.inv with ⟨e1, _, _⟩ | ⟨bc, capc, rfl, rfl⟩
        · have : c.length = 0 := by simpa using congrArg List.length e1
          omega
        simp only [go_sem, List.length_map]
        repeat ((with_reducible refine an ?_ ?_); focus exact As)
        refine AWp.of ?_; simp only [go_sem, hgp]
        repeat ((with_reducible refine an ?_ ?_); focus exact As)
        have ez : (chl ps lv i ++ (nt ++ [stpC c p])).map aInts = (chl ps lv i ++ nt).map aInts ++ [aInts (stpC c p)] := by
          rw [← List.append_assoc, List.map_append]; rfl
        have hyl : ((chl ps lv i ++ nt).map aInts).length ≤ 8 * 5000 + 8 := by rw [List.length_map, List.length_append]; omega
        rw [ez]
        refine AWp.viewP (Lf := [(bc, _)]) (Lk := L) (L' := L) (List.Perm.refl _) (LVw.refl _) [(9, aInts (stpC c p))] (fun q hq => ?_) ?_
        · obtain rfl := List.mem_singleton.1 hq
          simp only [go_sem]
          rw [← hst]
          exact Vw.ofLs (t := 3) (cap := capc) (if_pos rfl) (by simp)
        generalize (chl ps lv i ++ nt).map aInts = ys at *
        generalize stpC c p = d at *
        rcases hA.inv with ⟨e1, rfl, rfl⟩ | ⟨bq, capq, rfl, rfl⟩
        · simp only [go_sem]
          repeat (first | ((with_reducible refine AWp.ofC ?_ ?_); (focus exact rfl); simp only [go_sem]) | ((with_reducible refine an ?_ ?_); focus exact Au))
          intro b' cap' hc'
          exact ⟨_, List.Sublist.refl _, _, rfl, by rw [e1]; exact .row b' [_] cap'⟩
        · simp only [go_sem]
          repeat (first | ((with_reducible refine AWp.ofC ?_ ?_); (focus exact rfl); simp only [go_sem]) | ((with_reducible refine an ?_ ?_); focus exact Au))
          intro b' cap' hc'
          exact ⟨_, List.Sublist.refl _, _, rfl, AppSt.snoc b' cap' _ rfl⟩
      · rw [if_neg (by rw [hb]; exact Bool.false_ne_true), List.append_nil]
        repeat (first | ((with_reducible refine AWp.ofC ?_ ?_); (focus exact rfl); simp only [go_sem]) | ((with_reducible refine an ?_ ?_); focus exact Au))
        exact ⟨L, List.Sublist.refl _, v, rfl, hA⟩
    · rintro vs L - ⟨v, rfl, hA⟩
      simp only [go_sem]
      repeat (first | ((with_reducible refine AWp.ofC ?_ ?_); (focus exact rfl); simp only [go_sem]) | ((with_reducible refine an ?_ ?_); focus exact Au))
      exact ⟨L, List.Sublist.refl _, v, rfl, hA⟩
  · rintro vs L - ⟨v, rfl, hA⟩
    have hchl := hcl lv.length (Nat.le_refl _)
    generalize chl ps lv lv.length = ch at *
    have hsl : (sortL ch).length = ch.length := (sortBy_perm cmpL ch).length_eq
    have hsm : ∀ x ∈ sortL ch, x.length ≤ 1000000 := fun x hx => hall x ((sortBy_perm cmpL ch).mem_iff.1 hx)
    rcases hA.inv with ⟨e1, rfl, rfl⟩ | ⟨b, cap, rfl, rfl⟩
    · obtain rfl : ch = [] := by simpa using e1
      simp only [go_sem]
      repeat (first | ((with_reducible refine AWp.ofC ?_ ?_); (focus exact rfl); simp only [go_sem]) | ((with_reducible refine an ?_ ?_); focus exact Au))
      repeat ((with_reducible refine an ?_ ?_); focus exact As)
      refine (sort_nil _).val.use ?_; simp only [go_sem]
      repeat (first | ((with_reducible refine AWp.ofC ?_ ?_); (focus exact rfl); simp only [go_sem]) | ((with_reducible refine an ?_ ?_); focus exact Au))
      repeat ((with_reducible refine an ?_ ?_); focus exact As)
      refine (compact_nil _).val.use ?_; simp only [go_sem]
      repeat (first | ((with_reducible refine AWp.ofC ?_ ?_); (focus exact rfl); simp only [go_sem]) | ((with_reducible refine an ?_ ?_); focus exact Au))
      refine ret_view [] ?_; simp only [go_sem]
      rw [List.eq_nil_of_length_eq_zero (l := sortL []) hsl]
      exact .nil 1
    · have hso := sort_rows b cap ch hall (by omega) 42
      have hco := rows_compact b cap (sortL ch) hsm (by omega)
      rw [hsl] at hco
      generalize sortL ch = sc at *
      simp only [go_sem, List.length_map]
      repeat (first | ((with_reducible refine AWp.ofC ?_ ?_); (focus exact rfl); simp only [go_sem]) | ((with_reducible refine an ?_ ?_); focus exact Au))
      refine hso.val.mono ?_
      rintro r L ⟨rfl, rfl⟩
      simp only [go_sem]
      repeat (first | ((with_reducible refine AWp.ofC ?_ ?_); (focus exact rfl); simp only [go_sem]) | ((with_reducible refine an ?_ ?_); focus exact Au))
      refine hco.val.mono ?_
      rintro r L ⟨ws, cap', rfl, rfl⟩
      generalize compL sc = cc at *
      simp only [go_sem]
      repeat (first | ((with_reducible refine AWp.ofC ?_ ?_); (focus exact rfl); simp only [go_sem]) | ((with_reducible refine an ?_ ?_); focus exact Au))
      refine ret_view [true] ?_; simp only [go_sem]
      exact Vw.front (if_pos rfl) (by rw [List.length_map])
end Go.AL
end
section
/- The reference of layer 23: the list of consistent cuts. No condition. -/
namespace Go.AL
open Go Go.RowKit
set_option maxRecDepth 4000
/-- Counts within bounds. -/
def Cb (c : List Int) : Prop := c.length ≤ 1000000 ∧ ∀ z ∈ c, 0 ≤ z ∧ z ≤ 1000000
theorem isF_cb {ps : List Pr} (hs : Sm ps) {c : List Int} (h : isF ps c = true) : Cb c := by
  obtain ⟨h1, h2, _⟩ := isF_iff.1 h
  have := hs.procs
  refine ⟨by omega, fun z hz => ⟨isF_nonneg h z hz, ?_⟩⟩
  obtain ⟨p, hp, rfl⟩ := List.getElem_of_mem hz
  have h3 := ((inRange_iff h1).1 h2 p (by omega)).2
  have := hs.evs _ (List.getElem_mem (show p < ps.length by omega))
  rw [cAt_nat hp] at h3
  omega
theorem cb_take {c : List Int} (h : Cb c) (k : Nat) : 0 ≤ (c.take k).sum ∧ (c.take k).sum ≤ 1000000 * k := by
  have h2 := h.2
  clear h
  induction c generalizing k with
  | nil => rw [List.take_nil, List.sum_nil]; omega
  | cons a c ih =>
    cases k with
    | zero => simp
    | succ k =>
      have h0 := h2 a List.mem_cons_self
      have := ih k fun z hz => h2 z (List.mem_cons_of_mem _ hz)
      rw [List.take_succ_cons, List.sum_cons]; omega
theorem take_sum {c : List Int} {k : Nat} (hk : k < c.length) : (c.take (k + 1)).sum = (c.take k).sum + c[k] := by
  rw [List.take_add_one, List.getElem?_eq_getElem hk, List.sum_append]; simp
theorem ref23_Size (c : List Int) (hc : Cb c) : PC Go.Proofs.Tryz.prog 67 [aInts c] (ai c.sum) := by
  have hl := hc.1
  refine PC.enter 18 [.tmp 2] [] Go.Proofs.Tryz.func67 rfl rfl rfl rfl rfl (by simp) (AWp.of ?_); simp only [go_sem]
  repeat (first | ((with_reducible refine AWp.ofC ?_ ?_); (focus exact rfl); simp only [go_sem]) | ((with_reducible refine an ?_ ?_); focus exact Au))
  refine AWp.block (AWp.count 4 c.length [3] [0] (fun k vs L => L = [] ∧ vs = [ai (c.take k).sum]) rfl rfl ⟨rfl, rfl⟩ ?_)
  rintro k vs L hk - ⟨rfl, rfl⟩
  have htk := cb_take hc k
  simp only [go_sem]
  repeat (first | ((with_reducible refine AWp.ofC ?_ ?_); (focus exact rfl); simp only [go_sem]) | ((with_reducible refine an ?_ ?_); focus exact Au))
  refine ⟨fun h1 => ?_, fun h1 => ?_⟩
  · have hkc : k < c.length := by omega
    have hg := getD_map (f := ai) hkc
    have hz := hc.2 _ (List.getElem_mem hkc)
    have ht := take_sum hkc
    repeat (first | ((with_reducible refine AWp.ofC ?_ ?_); (focus exact rfl); simp only [go_sem, hg]) | ((with_reducible refine an ?_ ?_); focus exact Au))
    repeat ((with_reducible refine an ?_ ?_); focus exact As)
    exact ⟨_, List.Sublist.refl _, rfl, by rw [ht]⟩
  · have : k = c.length := by omega
    subst this
    rw [List.take_length]
    repeat (first | ((with_reducible refine AWp.ofC ?_ ?_); (focus exact rfl); simp only [go_sem]) | ((with_reducible refine an ?_ ?_); focus exact Au))
    refine ret_eq ?_; simp only [go_sem]
theorem lexF_hit : ∀ {a b : List Int} {k : Nat} (ha : k < a.length) (hb : k < b.length), a[k] = b[k] → lexF (a.drop k) (b.drop k) = lexF (a.drop (k + 1)) (b.drop (k + 1)) := fun {a b k} ha hb h => by
  rw [List.drop_eq_getElem_cons ha, List.drop_eq_getElem_cons hb, lexF, if_pos h]
theorem lexF_no {a b : List Int} {k : Nat} (ha : k < a.length) (hb : k < b.length) (h : ¬ a[k] = b[k]) : lexF (a.drop k) (b.drop k) = decide (a[k] < b[k]) := by
  rw [List.drop_eq_getElem_cons ha, List.drop_eq_getElem_cons hb, lexF, if_neg h]
theorem ref23_Before (a b : List Int) (ha : Cb a) (hb : Cb b) (hl : a.length = b.length) : PC Go.Proofs.Tryz.prog 94 [aInts a, aInts b] (ab (befF a b)) := by
  have h1 := ref23_Size a ha
  have h2 := ref23_Size b hb
  have hal := ha.1
  unfold befF
  by_cases hs : a.sum = b.sum
  · rw [if_pos hs]
    refine PC.enter 40 [.tmp 4] [] Go.Proofs.Tryz.func94 rfl rfl rfl rfl rfl (by simp) (AWp.of ?_); simp only [go_sem]
    repeat (first | ((with_reducible refine AWp.ofC ?_ ?_); (focus exact rfl); simp only [go_sem]) | ((with_reducible refine an ?_ ?_); focus exact Au))
    repeat ((with_reducible refine an ?_ ?_); focus exact As)
    refine (h1).val.use ?_; simp only [go_sem]
    repeat ((with_reducible refine an ?_ ?_); focus exact As)
    refine (h2).val.use ?_; simp only [go_sem]
    repeat (first | ((with_reducible refine AWp.ofC ?_ ?_); (focus exact rfl); simp only [go_sem, hs]) | ((with_reducible refine an ?_ ?_); focus exact Au))
    refine AWp.block (AWp.count 5 a.length [] [0, 1] (fun k vs L => L = [] ∧ lexF a b = lexF (a.drop k) (b.drop k)) rfl rfl ⟨rfl, rfl⟩ ?_)
    rintro k vs L hk - ⟨rfl, hI⟩
    simp only [go_sem]
    repeat (first | ((with_reducible refine AWp.ofC ?_ ?_); (focus exact rfl); simp only [go_sem]) | ((with_reducible refine an ?_ ?_); focus exact Au))
    refine ⟨fun h3 => ?_, fun h3 => ?_⟩
    · have hka : k < a.length := by omega
      have hkb : k < b.length := by omega
      have ga := getD_map (f := ai) hka
      have gb := getD_map (f := ai) hkb
      refine AWp.seq (AWp.block (AWp.seq ?_))
      refine AWp.drawn mixed 9 (by kernel_rfl) ?_; simp only [go_sem, ga, gb]
      repeat ((with_reducible refine an ?_ ?_); focus exact As)
      repeat (first | ((with_reducible refine AWp.ofC ?_ ?_); (focus exact rfl); simp only [go_sem]) | ((with_reducible refine an ?_ ?_); focus exact Au))
      refine ⟨fun h4 => ?_, fun h4 => ?_⟩
      · refine AWp.drawn mixed 9 (by kernel_rfl) ?_; simp only [go_sem, ga, gb]
        repeat (first | ((with_reducible refine AWp.ofC ?_ ?_); (focus exact rfl); simp only [go_sem]) | ((with_reducible refine an ?_ ?_); focus exact Au))
        refine ret_eq ?_; simp only [go_sem]
        rw [hI, lexF_no hka hkb h4]
      · repeat (first | ((with_reducible refine AWp.ofC ?_ ?_); (focus exact rfl); simp only [go_sem]) | ((with_reducible refine an ?_ ?_); focus exact Au))
        exact ⟨_, List.Sublist.refl _, rfl, by rw [hI, lexF_hit hka hkb (by omega)]⟩
    · have : k = a.length := by omega
      subst this
      repeat (first | ((with_reducible refine AWp.ofC ?_ ?_); (focus exact rfl); simp only [go_sem]) | ((with_reducible refine an ?_ ?_); focus exact Au))
      refine ret_eq ?_; simp only [go_sem]
      rw [hI, List.drop_length]; rfl
  · rw [if_neg hs]
    refine PC.enter 40 [.tmp 4] [] Go.Proofs.Tryz.func94 rfl rfl rfl rfl rfl (by simp) (AWp.of ?_); simp only [go_sem]
    repeat (first | ((with_reducible refine AWp.ofC ?_ ?_); (focus exact rfl); simp only [go_sem]) | ((with_reducible refine an ?_ ?_); focus exact Au))
    repeat ((with_reducible refine an ?_ ?_); focus exact As)
    refine (h1).val.use ?_; simp only [go_sem]
    repeat ((with_reducible refine an ?_ ?_); focus exact As)
    refine (h2).val.use ?_; simp only [go_sem]
    repeat (first | ((with_reducible refine AWp.ofC ?_ ?_); (focus exact rfl); simp only [go_sem, hs]) | ((with_reducible refine an ?_ ?_); focus exact Au))
    repeat ((with_reducible refine an ?_ ?_); focus exact As)
    refine (h1).val.use ?_; simp only [go_sem]
    repeat ((with_reducible refine an ?_ ?_); focus exact As)
    refine (h2).val.use ?_; simp only [go_sem]
    repeat (first | ((with_reducible refine AWp.ofC ?_ ?_); (focus exact rfl); simp only [go_sem]) | ((with_reducible refine an ?_ ?_); focus exact Au))
    refine ret_eq ?_; simp only [go_sem]
theorem ref23_Is (ps : List Pr) (hs : Sm ps) (hn : 1 ≤ ps.length) (c : List Int) : PC Go.Proofs.Tryz.prog 20 [aTr ps, aInts c] (ab (isF ps c)) := by
  have h1 := ref12_Cut ps hs c
  have h2 := fun h1 h2 => ref12_Consistent ps hs hn c h1 h2
  unfold isF
  generalize closedF ps c = B at *
  refine PC.enter 13 [.tmp 4] [2] Go.Proofs.Tryz.func20 rfl rfl rfl rfl rfl (by simp) (AWp.of ?_); simp only [go_sem]
  repeat (first | ((with_reducible refine AWp.ofC ?_ ?_); (focus exact rfl); simp only [go_sem]) | ((with_reducible refine an ?_ ?_); focus exact Au))
  repeat ((with_reducible refine an ?_ ?_); focus exact As)
  refine (h1).val.use ?_; simp only [go_sem]
  refine GCall.use (ab B) ?_ ?_
  · intro g; exact ⟨At, (h2 (by simpa using g.1) (by simpa using g.2)).val.use ⟨rfl, rfl⟩⟩
  simp only [go_sem]
  repeat (first | ((with_reducible refine AWp.ofC ?_ ?_); (focus exact rfl); simp only [go_sem]) | ((with_reducible refine an ?_ ?_); focus exact Au))
  refine ret_eq ?_; simp only [go_sem]
theorem ref23_Step (c : List Int) (hc : Cb c) (p : Nat) (hp : p < c.length) : PC Go.Proofs.Tryz.prog 93 [aInts c, ai p] (aInts (stpC c p)) := by
  have hl := hc.1
  have hz := hc.2 _ (List.getElem_mem hp)
  have hg := getD_map (f := ai) hp
  have hst : (c.map ai).set p (ai (c[p] + 1)) = (stpC c p).map ai := by unfold stpC; rw [cAt_nat hp, List.map_set]
  have hsl : (stpC c p).length = c.length := by unfold stpC; rw [List.length_set]
  refine PC.enter 18 [.tmp 4] [] Go.Proofs.Tryz.func93 rfl rfl rfl rfl rfl (by simp) (AWp.of ?_); simp only [go_sem]
  repeat (first | ((with_reducible refine AWp.ofC ?_ ?_); (focus exact rfl); simp only [go_sem]) | ((with_reducible refine an ?_ ?_); focus exact Au))
  intro b0
  refine ⟨⟨by omega, by omega⟩, fun b cap hcap => ?_⟩
  repeat (first | ((with_reducible refine AWp.ofC ?_ ?_); (focus exact rfl); simp only [go_sem, hg]) | ((with_reducible refine an ?_ ?_); focus exact Au))
  repeat ((with_reducible refine an ?_ ?_); focus exact As)
  rw [hst]
  refine ret_view [true] ?_; simp only [go_sem]
  exact Vw.ofLs (if_pos rfl) (by rw [List.length_map, hsl])
theorem ref23_Next (ps : List Pr) (hs : Sm ps) (hn : 1 ≤ ps.length) (c : List Int) (hc : isF ps c = true) : PC Go.Proofs.Tryz.prog 54 [aTr ps, aInts c] (aRows (nextL ps c)) := by
  have hcb := isF_cb hs hc
  obtain ⟨hl, hr, _⟩ := isF_iff.1 hc
  have hps := hs.procs
  have hI := fun d => ref23_Is ps hs hn d
  have hS := fun p hp => ref23_Step c hcb p hp
  have hlen := fun k => nextT_len ps c k
  have hR : aRows (nextL ps c) = .sl 1 ((nextT ps c c.length).map aInts) := rfl
  rw [hR]
  refine PC.enter 39 [.tmp 4] [2, 36] Go.Proofs.Tryz.func54 rfl rfl rfl rfl rfl (by simp) (AWp.of ?_); simp only [go_sem]
  repeat (first | ((with_reducible refine AWp.ofC ?_ ?_); (focus exact rfl); simp only [go_sem]) | ((with_reducible refine an ?_ ?_); focus exact Au))
  refine AWp.block (AWp.count 6 c.length [5] [1, 2] (fun k vs L => ∃ v, vs = [v] ∧ AppSt 42 1 ((nextT ps c k).map aInts) v L) rfl rfl ⟨anil, rfl, .nil⟩ ?_)
  rintro k vs L hk - ⟨v, rfl, hA⟩
  have hfo := hA.fo
  have hyl : ((nextT ps c k).map aInts).length ≤ k := by rw [List.length_map]; exact hlen k
  simp only [go_sem]
  by_cases hkn : k < c.length
  · have hki : (k : Int) < c.length := by omega
    have hkp : k < ps.length := by omega
    have gc := getD_map (f := ai) hkn
    have gp := getD_map (f := aPr) hkp
    have hel := hs.evs _ (List.getElem_mem hkp)
    have hSk := hS k hkn
    have hIk := hI (stpC c k)
    have hsu := nextT_succ ps c k
    have hnx : nx1 ps c k = if c[k] < ps[k].evs.length ∧ isF ps (stpC c k) = true then [stpC c k] else [] := by unfold nx1; rw [cAt_nat hkn, nev_get hkp]
    rw [hnx] at hsu
    have hbd := hcb.2 _ (List.getElem_mem hkn)
    generalize isF ps (stpC c k) = B at *
    generalize stpC c k = s at *
    repeat (first | ((with_reducible refine AWp.ofC ?_ ?_); (focus exact rfl); simp only [go_sem, hki]) | ((with_reducible refine an ?_ ?_); focus exact Au))
    refine AWp.seq (AWp.block (AWp.seq ?_))
    repeat (first | (with_reducible refine AWp.seq ?_) | (with_reducible refine AWp.block ?_))
    refine AWp.mix mixed [0, 1, 2, 3, 4, 5, 6, 7, 8, 9, 10, 11, 12, 13, 14, 15, 16, 17, 18] .done (by kernel_rfl) ?_; simp only [go_sem, gc, gp]
    repeat ((with_reducible refine an ?_ ?_); focus exact As)
    refine GCall.use (aInts s) ?_ ?_
    · intro _; exact ⟨At, hSk.val.use ⟨rfl, rfl⟩⟩
    simp only [go_sem]
    repeat ((with_reducible refine an ?_ ?_); focus exact As)
    refine GCall.use (ab B) ?_ ?_
    · intro _; exact ⟨At, hIk.val.use ⟨rfl, rfl⟩⟩
    simp only [go_sem]
    repeat ((with_reducible refine an ?_ ?_); focus exact As)
    repeat (first | ((with_reducible refine AWp.ofC ?_ ?_); (focus exact rfl); simp only [go_sem]) | ((with_reducible refine an ?_ ?_); focus exact Au))
    refine ⟨fun h1 h2 => ?_, fun h1 => ?_⟩
    · rw [if_pos ⟨h1, h2⟩] at hsu
      generalize hys : (nextT ps c k).map aInts = ys at *
      rcases hA.inv with ⟨e1, rfl, rfl⟩ | ⟨b, cap, rfl, rfl⟩
      · repeat (first | ((with_reducible refine AWp.ofC ?_ ?_); (focus exact rfl); simp only [go_sem]) | ((with_reducible refine an ?_ ?_); focus exact Au))
        repeat ((with_reducible refine an ?_ ?_); focus exact As)
        refine (hSk).val.use ?_; simp only [go_sem]
        intro b' cap' _
        repeat (first | ((with_reducible refine AWp.ofC ?_ ?_); (focus exact rfl); simp only [go_sem]) | ((with_reducible refine an ?_ ?_); focus exact Au))
        refine ⟨_, List.Sublist.refl _, _, rfl, ?_⟩
        rw [hsu, List.map_append, hys, e1]
        exact .row _ _ _
      · repeat (first | ((with_reducible refine AWp.ofC ?_ ?_); (focus exact rfl); simp only [go_sem]) | ((with_reducible refine an ?_ ?_); focus exact Au))
        repeat ((with_reducible refine an ?_ ?_); focus exact As)
        refine (hSk).val.use ?_; simp only [go_sem]
        refine ⟨⟨by omega, by omega⟩, fun b' cap' _ => ?_⟩
        repeat (first | ((with_reducible refine AWp.ofC ?_ ?_); (focus exact rfl); simp only [go_sem]) | ((with_reducible refine an ?_ ?_); focus exact Au))
        refine ⟨_, List.Sublist.refl _, _, rfl, ?_⟩
        rw [hsu, List.map_append, hys]
        have := AppSt.row (t := 42) (k := 1) b' (ys ++ [aInts s]) cap'
        simpa [aInts] using this
    · rw [if_neg (fun h => by have := h1 h.1; rw [h.2] at this; cases this), List.append_nil] at hsu
      repeat (first | ((with_reducible refine AWp.ofC ?_ ?_); (focus exact rfl); simp only [go_sem]) | ((with_reducible refine an ?_ ?_); focus exact Au))
      refine ⟨_, List.Sublist.refl _, _, rfl, ?_⟩
      rw [hsu]; exact hA
  · have hki : ¬ (k : Int) < c.length := by omega
    have hke : k = c.length := by omega
    subst hke
    rcases hA.inv with ⟨e1, rfl, rfl⟩ | ⟨b, cap, rfl, rfl⟩
    · repeat (first | ((with_reducible refine AWp.ofC ?_ ?_); (focus exact rfl); simp only [go_sem, hki]) | ((with_reducible refine an ?_ ?_); focus exact Au))
      refine ret_view [] ?_; simp only [go_sem]
      rw [e1]
      exact .nil 1
    · repeat (first | ((with_reducible refine AWp.ofC ?_ ?_); (focus exact rfl); simp only [go_sem, hki]) | ((with_reducible refine an ?_ ?_); focus exact Au))
      refine ret_view [true] ?_; simp only [go_sem]
      exact Vw.ofLs (if_pos rfl) (by rw [List.length_map])
theorem ref15_SameList (a b : List Int) (ha : a.length ≤ 1000000) : PC Go.Proofs.Tryz.prog 95 [aInts a, aInts b] (ab (decide (a = b))) := by
  by_cases hl : a.length = b.length
  · have hli : (a.length : Int) = b.length := by omega
    refine PC.enter 26 [.tmp 4] [] Go.Proofs.Tryz.func95 rfl rfl rfl rfl rfl (by simp) (AWp.of ?_); simp only [go_sem]
    repeat (first | ((with_reducible refine AWp.ofC ?_ ?_); (focus exact rfl); simp only [go_sem, hli]) | ((with_reducible refine an ?_ ?_); focus exact Au))
    refine AWp.block (AWp.count 5 a.length [] [0, 1] (fun k vs L => L = [] ∧ ∀ j (h1 : j < a.length) (h2 : j < b.length), j < k → a[j] = b[j]) rfl rfl ⟨rfl, fun j _ _ h => by omega⟩ ?_)
    rintro k vs L hk - ⟨rfl, hI⟩
    simp only [go_sem]
    repeat (first | ((with_reducible refine AWp.ofC ?_ ?_); (focus exact rfl); simp only [go_sem, hli]) | ((with_reducible refine an ?_ ?_); focus exact Au))
    refine ⟨fun h3 => ?_, fun h3 => ?_⟩
    · have hka : k < a.length := by omega
      have hkb : k < b.length := by omega
      have ga := getD_map (f := ai) hka
      have gb := getD_map (f := ai) hkb
      refine AWp.seq (AWp.block (AWp.seq ?_))
      refine AWp.drawn mixed 9 (by kernel_rfl) ?_; simp only [go_sem, ga, gb]
      repeat ((with_reducible refine an ?_ ?_); focus exact As)
      repeat (first | ((with_reducible refine AWp.ofC ?_ ?_); (focus exact rfl); simp only [go_sem]) | ((with_reducible refine an ?_ ?_); focus exact Au))
      refine ⟨fun h4 => ?_, fun h4 => ?_⟩
      · repeat (first | ((with_reducible refine AWp.ofC ?_ ?_); (focus exact rfl); simp only [go_sem]) | ((with_reducible refine an ?_ ?_); focus exact Au))
        refine ret_eq ?_; simp only [go_sem]
        rw [decide_eq_false]
        rintro rfl
        exact h4 rfl
      · repeat (first | ((with_reducible refine AWp.ofC ?_ ?_); (focus exact rfl); simp only [go_sem]) | ((with_reducible refine an ?_ ?_); focus exact Au))
        refine ⟨_, List.Sublist.refl _, rfl, fun j j1 j2 hj => ?_⟩
        by_cases e : j = k
        · subst e; omega
        · exact hI j j1 j2 (by omega)
    · repeat (first | ((with_reducible refine AWp.ofC ?_ ?_); (focus exact rfl); simp only [go_sem]) | ((with_reducible refine an ?_ ?_); focus exact Au))
      refine ret_eq ?_; simp only [go_sem]
      rw [decide_eq_true]
      exact List.ext_getElem hl fun j j1 j2 => hI j j1 j2 (by omega)
  · have hli : ¬ (a.length : Int) = b.length := by omega
    rw [decide_eq_false fun h => hl (by rw [h])]
    refine PC.enter 26 [.tmp 4] [] Go.Proofs.Tryz.func95 rfl rfl rfl rfl rfl (by simp) (AWp.of ?_); simp only [go_sem]
    repeat (first | ((with_reducible refine AWp.ofC ?_ ?_); (focus exact rfl); simp only [go_sem, hli]) | ((with_reducible refine an ?_ ?_); focus exact Au))
    refine ret_eq ?_; simp only [go_sem]
theorem insF_at {l : List (List Int)} {c : List Int} {k : Nat} (hk : k ≤ l.length) (h1 : ∀ j (hj : j < l.length), j < k → befF l[j] c = true) (h2 : ∀ hk : k < l.length, befF l[k] c = false) : (l.takeWhile fun x => befF x c) = l.take k ∧ (l.dropWhile fun x => befF x c) = l.drop k := by
  induction l generalizing k with
  | nil => simp
  | cons a l ih =>
    cases k with
    | zero =>
      have := h2 (by simp)
      simp only [List.getElem_cons_zero] at this
      rw [List.takeWhile_cons, List.dropWhile_cons, this]; simp
    | succ k =>
      have h0 := h1 0 (by simp) (by omega)
      simp only [List.getElem_cons_zero] at h0
      obtain ⟨i1, i2⟩ := ih (k := k) (by simpa using hk) (fun j hj hjk => by have := h1 (j + 1) (by simpa using hj) (by omega); simpa using this) (fun hk => by have := h2 (by simpa using hk); simpa using this)
      rw [List.takeWhile_cons, List.dropWhile_cons, h0]
      simp [i1, i2]
theorem ref23_insert (l : List (List Int)) (c : List Int) (hl : l.length ≤ 1000000) (hc : Cb c) (hr : ∀ x ∈ l, Cb x ∧ x.length = c.length) : PC Go.Proofs.Tryz.prog 55 [aRows l, aInts c] (aRows (insF l c)) := by
  have hB := fun j (hj : j < l.length) => ref23_Before l[j] c (hr _ (List.getElem_mem hj)).1 hc (hr _ (List.getElem_mem hj)).2
  have hE := fun j (hj : j < l.length) => ref15_SameList l[j] c (hr _ (List.getElem_mem hj)).1.1
  have hR : ∀ x : List (List Int), aRows x = .sl 1 (x.map aInts) := fun _ => rfl
  rw [hR, hR]
  refine PC.enter 48 [.tmp 4] [41] Go.Proofs.Tryz.func55 rfl rfl rfl rfl rfl (by simp) (AWp.of ?_); simp only [go_sem]
  repeat (first | ((with_reducible refine AWp.ofC ?_ ?_); (focus exact rfl); simp only [go_sem]) | ((with_reducible refine an ?_ ?_); focus exact Au))
  refine AWp.cut [0, 1, 5] (fun vs L => L = [] ∧ ∃ k : Nat, k ≤ l.length ∧ vs = [.sl 1 (l.map aInts), aInts c, ai k] ∧ (∀ j (hj : j < l.length), j < k → befF l[j] c = true) ∧ ∀ hk : k < l.length, befF l[k] c = false) ?_ ?_
  · refine AWp.block (AWp.loopN [5] [0, 1] (fun m vs L => L = [] ∧ ∃ k : Nat, k ≤ l.length ∧ m = l.length - k ∧ vs = [ai k] ∧ ∀ j (hj : j < l.length), j < k → befF l[j] c = true) l.length ?_ ?_)
    · exact ⟨rfl, 0, by omega, rfl, rfl, fun j _ h => by omega⟩
    rintro m vs L - ⟨rfl, k, hk, rfl, rfl, hI⟩
    by_cases hkl : k < l.length
    · have hki : (k : Int) < l.length := by omega
      have g := getD_map (f := aInts) hkl
      have hBk := hB k hkl
      simp only [go_sem]
      repeat (first | ((with_reducible refine AWp.ofC ?_ ?_); (focus exact rfl); simp only [go_sem, g, hki]) | ((with_reducible refine an ?_ ?_); focus exact Au))
      refine GCall.use (ab (befF l[k] c)) ?_ ?_
      · intro _; exact ⟨At, hBk.val.use ⟨rfl, rfl⟩⟩
      simp only [go_sem]
      repeat ((with_reducible refine an ?_ ?_); focus exact As)
      cases hb : befF l[k] c with
      | true =>
        repeat (first | ((with_reducible refine AWp.ofC ?_ ?_); (focus exact rfl); simp only [go_sem]) | ((with_reducible refine an ?_ ?_); focus exact Au))
        refine ⟨_, List.Sublist.refl _, _, by omega, rfl, k + 1, by omega, rfl, by rw [show ((k + 1 : Nat) : Int) = (k : Int) + 1 by omega], fun j hj hjk => ?_⟩
        by_cases e : j = k
        · subst e; exact hb
        · exact hI j hj (by omega)
      | false =>
        repeat (first | ((with_reducible refine AWp.ofC ?_ ?_); (focus exact rfl); simp only [go_sem]) | ((with_reducible refine an ?_ ?_); focus exact Au))
        exact ⟨_, List.Sublist.refl _, rfl, k, hk, rfl, hI, fun _ => hb⟩
    · have hki : ¬ (k : Int) < l.length := by omega
      have hke : k = l.length := by omega
      subst hke
      simp only [go_sem]
      repeat (first | ((with_reducible refine AWp.ofC ?_ ?_); (focus exact rfl); simp only [go_sem, hki]) | ((with_reducible refine an ?_ ?_); focus exact Au))
      refine GCall.use (ab false) (fun g => by simp at g) ?_
      simp only [go_sem]
      repeat (first | ((with_reducible refine AWp.ofC ?_ ?_); (focus exact rfl); simp only [go_sem]) | ((with_reducible refine an ?_ ?_); focus exact Au))
      exact ⟨_, List.Sublist.refl _, rfl, l.length, Nat.le_refl _, rfl, hI, fun h => by omega⟩
  · rintro vs L - ⟨rfl, k, hk, rfl, h1, h2⟩
    obtain ⟨i1, i2⟩ := insF_at hk h1 h2
    have hck := hc.1
    unfold insF
    rw [i1, i2]
    by_cases hkl : k < l.length
    · have hki : (k : Int) < l.length := by omega
      have g := getD_map (f := aInts) hkl
      have hEk := hE k hkl
      have hd : (l.drop k).head? = some l[k] := by rw [List.head?_drop, List.getElem?_eq_getElem hkl]
      rw [hd]
      simp only [go_sem]
      repeat (first | ((with_reducible refine AWp.ofC ?_ ?_); (focus exact rfl); simp only [go_sem, g, hki]) | ((with_reducible refine an ?_ ?_); focus exact Au))
      refine GCall.use (ab (decide (l[k] = c))) ?_ ?_
      · intro _; exact ⟨At, hEk.val.use ⟨rfl, rfl⟩⟩
      simp only [go_sem]
      repeat ((with_reducible refine an ?_ ?_); focus exact As)
      repeat (first | ((with_reducible refine AWp.ofC ?_ ?_); (focus exact rfl); simp only [go_sem]) | ((with_reducible refine an ?_ ?_); focus exact Au))
      refine ⟨fun h3 => ?_, fun h3 => ?_⟩
      · repeat (first | ((with_reducible refine AWp.ofC ?_ ?_); (focus exact rfl); simp only [go_sem]) | ((with_reducible refine an ?_ ?_); focus exact Au))
        refine ret_eq ?_; simp only [go_sem]
        rw [if_pos (by rw [h3])]
      · rw [if_neg (fun e => h3 (by simpa using e))]
        repeat (first | ((with_reducible refine AWp.ofC ?_ ?_); (focus exact rfl); simp only [go_sem]) | ((with_reducible refine an ?_ ?_); focus exact Au))
        intro b0
        refine ⟨⟨by omega, by omega, by omega⟩, ⟨by rw [List.length_take]; omega, by rw [List.length_take]; omega⟩, fun b1 cap1 _ => ?_⟩
        repeat (first | ((with_reducible refine AWp.ofC ?_ ?_); (focus exact rfl); simp only [go_sem]) | ((with_reducible refine an ?_ ?_); focus exact Au))
        refine ⟨⟨by rw [List.length_take]; omega, by rw [List.length_take]; omega⟩, fun b2 cap2 _ => ?_⟩
        repeat (first | ((with_reducible refine AWp.ofC ?_ ?_); (focus exact rfl); simp only [go_sem]) | ((with_reducible refine an ?_ ?_); focus exact Au))
        have htd : (l.take k).length + 1 + (l.drop k).length = l.length + 1 := by rw [List.length_take, List.length_drop]; omega
        refine ⟨by simp, ⟨by omega, by omega⟩, fun b3 cap3 _ => ?_⟩
        repeat (first | ((with_reducible refine AWp.ofC ?_ ?_); (focus exact rfl); simp only [go_sem]) | ((with_reducible refine an ?_ ?_); focus exact Au))
        refine ret_view [true] ?_; simp only [go_sem]
        have e : List.take ((List.take k l).length + 1) (List.map aInts (List.take k l) ++ [AV.sl 1 (List.map ai c)]) ++ List.map aInts (List.drop k l) = List.map aInts (List.take k l ++ c :: List.drop k l) := by
          rw [List.take_of_length_le (by simp)]; simp [aInts]
        rw [e]
        exact Vw.ofLs (if_pos rfl) (by rw [List.length_map, List.length_append, List.length_cons]; omega)
    · have hki : ¬ (k : Int) < l.length := by omega
      have hke : k = l.length := by omega
      subst hke
      rw [if_neg (by simp)]
      simp only [go_sem]
      repeat (first | ((with_reducible refine AWp.ofC ?_ ?_); (focus exact rfl); simp only [go_sem, hki]) | ((with_reducible refine an ?_ ?_); focus exact Au))
      refine GCall.use (ab false) (fun g => by simp at g) ?_
      simp only [go_sem]
      repeat (first | ((with_reducible refine AWp.ofC ?_ ?_); (focus exact rfl); simp only [go_sem, List.take_length, List.drop_length]) | ((with_reducible refine an ?_ ?_); focus exact Au))
      intro b0
      refine ⟨⟨by omega, by omega, by omega⟩, ⟨by omega, by omega⟩, fun b1 cap1 _ => ?_⟩
      repeat (first | ((with_reducible refine AWp.ofC ?_ ?_); (focus exact rfl); simp only [go_sem]) | ((with_reducible refine an ?_ ?_); focus exact Au))
      intro b2 cap2 _
      repeat (first | ((with_reducible refine AWp.ofC ?_ ?_); (focus exact rfl); simp only [go_sem]) | ((with_reducible refine an ?_ ?_); focus exact Au))
      have hdl : (List.drop l.length l).length = 0 := by rw [List.length_drop]; omega
      refine ⟨by simp, ⟨by omega, by omega⟩, fun b3 cap3 _ => ?_⟩
      repeat (first | ((with_reducible refine AWp.ofC ?_ ?_); (focus exact rfl); simp only [go_sem]) | ((with_reducible refine an ?_ ?_); focus exact Au))
      refine ret_view [true] ?_; simp only [go_sem]
      have e : List.take (l.length + 1) (List.map aInts l ++ [AV.sl 1 (List.map ai c)]) ++ List.map aInts (List.drop l.length l) = List.map aInts (l ++ [c]) := by
        rw [List.take_of_length_le (by simp), List.drop_length]; simp [aInts]
      rw [e]
      exact Vw.ofLs (if_pos rfl) (by rw [List.length_map, List.length_append, List.length_singleton]; omega)
theorem Vw.ofLs' {L : AHeap} {b k len c : Nat} {t : TypeId} {xs xs' : List AV} {cap : Nat} (h : lk L b = some (.row t k xs cap)) (hl : len = xs.length) (hv : Vws L xs xs') : Vw L (.ls b k 0 len c) (.sl k xs') := by
  subst hl
  exact .ls h (by omega) (by rw [List.drop_zero, List.take_length]; exact hv.1) (by rw [List.drop_zero, List.take_length]; exact hv.2)
theorem moreT_succ {ps : List Pr} {l : List (List Int)} {i : Nat} (hi : i < l.length) : moreT ps (l.take (i + 1)) = insL (moreT ps (l.take i)) (nextL ps l[i]) := by
  unfold moreT
  rw [List.take_add_one, List.getElem?_eq_getElem hi, List.foldl_append]; rfl
theorem moreT_len {ps : List Pr} {B : Nat} : ∀ {l acc : List (List Int)}, (∀ c ∈ l, c.length ≤ B) → (l.foldl (fun acc c => insL acc (nextL ps c)) acc).length ≤ acc.length + l.length * B
  | [], acc, _ => by simp
  | c :: l, acc, h => by
    have h1 := moreT_len (ps := ps) (B := B) (l := l) (acc := insL acc (nextL ps c)) fun c hc => h c (List.mem_cons_of_mem _ hc)
    have h2 := insL_len (nextL ps c) acc
    have h3 := nextT_len ps c c.length
    have h4 := h c List.mem_cons_self
    have h5 : (nextL ps c).length = (nextT ps c c.length).length := rfl
    rw [List.foldl_cons, List.length_cons, Nat.add_mul]
    omega
theorem insL_succ {acc l : List (List Int)} {j : Nat} (hj : j < l.length) : insL acc (l.take (j + 1)) = insF (insL acc (l.take j)) l[j] := by
  unfold insL
  rw [List.take_add_one, List.getElem?_eq_getElem hj, List.foldl_append]; rfl
set_option maxHeartbeats 1000000 in
theorem ref23_List (ps : List Pr) (hs : Sm ps) (hv : validF ps = true) : PC Go.Proofs.Tryz.prog 13 [aTr ps] (if 5000 < (cutsF ps).length then .tup [.sl 1 [], ab false] else .tup [aRows (cutsF ps), ab true]) := by
  obtain ⟨hl1, hl8⟩ := valid_len hv
  have hps := hs.procs
  have hisF : ∀ c, isF ps c = true → Cb c ∧ c.length = ps.length := fun c h => ⟨isF_cb hs h, (isF_iff.1 h).1⟩
  have hlev : ∀ k c, c ∈ levF ps k → isF ps c = true := fun k c h => ((mem_levF hv k c).1 h).1
  have hnxt : ∀ c d, d ∈ nextL ps c → isF ps d = true := fun c d h => by obtain ⟨_, _, _, h1, rfl⟩ := mem_nextL.1 h; exact h1
  have hR : ∀ x : List (List Int), aRows x = .sl 1 (x.map aInts) := fun _ => rfl
  have hNx := fun c hc => ref23_Next ps hs hl1 c hc
  have hE : (if 5000 < (cutsF ps).length then AV.tup [.sl 1 [], ab false] else .tup [aRows (cutsF ps), ab true]) = if 5000 < (cutsF ps).length then AV.tup [.sl 1 [], ab false] else .tup [.sl 1 ((cutsF ps).map aInts), ab true] := rfl
  rw [hE]
  refine PC.enter 50 [.tmp 2, .tmp 3] [1] Go.Proofs.Tryz.func13 rfl rfl rfl rfl rfl (by simp) (AWp.of ?_); simp only [go_sem]
  repeat (first | ((with_reducible refine AWp.ofC ?_ ?_); (focus exact rfl); simp only [go_sem]) | ((with_reducible refine an ?_ ?_); focus exact Au))
  intro b0 b1 g1
  have n1 : ¬ b1 = b0 := by omega
  have n2 : ¬ b0 = b1 := by omega
  refine AWp.view [true, true] [(4, .sl 1 ((levF ps 0).map aInts))] (LVw.refl _) ?_ ?_
  · intro q hq
    simp only [List.mem_singleton] at hq
    subst hq
    simp only [go_sem, pickT]
    have e : List.replicate ps.length (ai 0) = (List.replicate ps.length (0 : Int)).map ai := (List.map_replicate).symm
    rw [e]
    exact Vw.ofLs' (t := 42) (cap := 1) (if_pos rfl) rfl (Vws.cons (Vw.ofLs (t := 3) (cap := ps.length) (by simp only [lk, n2, if_false, if_true]) (by rw [List.length_map, List.length_replicate])) .nil)
  simp only [go_sem, pickF]
  repeat (first | ((with_reducible refine AWp.ofC ?_ ?_); (focus exact rfl); simp only [go_sem]) | ((with_reducible refine an ?_ ?_); focus exact Au))
  refine AWp.seq (AWp.block (AWp.loopN [4, 5] [1] (fun m vs L => ∃ (k : Nat) (v : AV), vs = [.sl 1 ((levF ps k).map aInts), v] ∧ AppSt 42 1 ((cumF ps k).map aInts) v L ∧ (cumF ps k).length ≤ 5000 ∧ (levF ps k).length ≤ 40000 ∧ k ≤ off ps ps.length + 1 ∧ m = off ps ps.length + 1 - k) (off ps ps.length + 1) ?_ ?_))
  · exact ⟨0, anil, rfl, .nil, by simp [cumF], by simp [levF], by omega, rfl⟩
  rintro m vs L - ⟨k, v, rfl, hA, h5, hl4, hk, rfl⟩
  have hlevk := hlev k
  by_cases hlv : levF ps k = []
  · have hz : ¬ (0 : Int) < ((levF ps k).length : Int) := by rw [hlv]; simp
    have hcut : cutsF ps = cumF ps k := by
      unfold cutsF
      rw [show off ps ps.length + 1 = k + (off ps ps.length + 1 - k) by omega, cumF_end hlv]
    rw [hcut, if_neg (by omega)]
    generalize (cumF ps k).map aInts = ys at *
    rcases hA.inv with ⟨e1, rfl, rfl⟩ | ⟨bq, cap, rfl, rfl⟩
    · simp only [go_sem]
      repeat (first | ((with_reducible refine AWp.ofC ?_ ?_); (focus exact rfl); simp only [go_sem, hz]) | ((with_reducible refine an ?_ ?_); focus exact Au))
      refine ret_view [] ?_; simp only [go_sem]
      rw [e1]
      exact .mkTup (Vws.cons (.nil 1) (Vws.refl _))
    · simp only [go_sem]
      repeat (first | ((with_reducible refine AWp.ofC ?_ ?_); (focus exact rfl); simp only [go_sem, hz]) | ((with_reducible refine an ?_ ?_); focus exact Au))
      refine ret_view [true] ?_; simp only [go_sem]
      exact .mkTup (Vws.cons (Vw.ofLs (if_pos rfl) rfl) (Vws.refl _))
  · have hko : k ≤ off ps ps.length := by
      rcases Nat.lt_or_ge (off ps ps.length) k with h | h
      · exact absurd (levF_end hv h) hlv
      · exact h
    have hpos : 0 < (levF ps k).length := List.length_pos_iff.2 hlv
    have hne : ¬ (levF ps k).map aInts = [] := fun h => hlv (by simpa using h)
    have hposi : (0 : Int) < ((levF ps k).length : Int) := by omega
    have hcs := cumF_succ ps k
    have hcsl : (cumF ps (k + 1)).length = (cumF ps k).length + (levF ps k).length := by rw [hcs, List.length_append]
    have hmono := cumF_mono (ps := ps) (j := k + 1) (k := off ps ps.length + 1) (by omega)
    have hcutl : (cumF ps (off ps ps.length + 1)).length = (cutsF ps).length := rfl
    have hmore : (levF ps k).length ≤ 5000 → (levF ps (k + 1)).length ≤ 40000 := fun h => by
      have := moreT_len (ps := ps) (B := ps.length) (l := levF ps k) (acc := []) fun c hc => by rw [(hisF c (hlevk c hc)).2]; exact Nat.le_refl _
      have h2 : (levF ps k).length * ps.length ≤ 5000 * 8 := Nat.mul_le_mul h hl8
      have h3 : (levF ps (k + 1)).length = ((levF ps k).foldl (fun acc c => insL acc (nextL ps c)) []).length := rfl
      rw [h3]
      simp only [List.length_nil] at this
      omega
    have hys : (cumF ps (k + 1)).map aInts = (cumF ps k).map aInts ++ (levF ps k).map aInts := by rw [hcs, List.map_append]
    have hyl : ((cumF ps k).map aInts).length = (cumF ps k).length := List.length_map _
    simp only [go_sem]
    repeat ((with_reducible refine an ?_ ?_); focus exact As)
    refine AWp.of ?_; simp only [go_sem, hposi]
    repeat ((with_reducible refine an ?_ ?_); focus exact As)
    refine AWp.of ?_; simp only [go_sem]
    refine AWp.block (AWp.cut [1, 4, 5] (fun vs L => ∃ b cap, vs = [.rp 1 [aTr ps] 0 0, .sl 1 ((levF ps k).map aInts), .ls b 1 0 (cumF ps (k + 1)).length cap] ∧ L = [(b, .row 42 1 ((cumF ps (k + 1)).map aInts) cap)]) ?_ ?_)
    · rw [hys, hcsl]
      generalize hY : (cumF ps k).map aInts = ys at *
      rcases hA.inv with ⟨e1, rfl, rfl⟩ | ⟨bq, cap, rfl, rfl⟩
      · repeat (first | ((with_reducible refine AWp.ofC ?_ ?_); (focus exact rfl); simp only [go_sem, hne]) | ((with_reducible refine an ?_ ?_); focus exact Au))
        intro b' cap' _
        refine ⟨_, List.Sublist.refl _, b', cap', ?_, by rw [e1]; rfl⟩
        rw [e1] at hyl
        rw [← hyl]; simp
      · repeat (first | ((with_reducible refine AWp.ofC ?_ ?_); (focus exact rfl); simp only [go_sem]) | ((with_reducible refine an ?_ ?_); focus exact Au))
        intro b' cap' _
        refine ⟨_, List.Sublist.refl _, b', cap', ?_, ?_⟩
        · rw [hyl]
        · simp
    rintro vs L - ⟨b, cap, rfl, rfl⟩
    have hcl1 : ((cumF ps (k + 1)).map aInts).length = (cumF ps (k + 1)).length := List.length_map _
    generalize hCC : (cumF ps (k + 1)).map aInts = CC at *
    simp only [go_sem]
    by_cases h5k : 5000 < (cumF ps (k + 1)).length
    · have h5i : (5000 : Int) < ((cumF ps (k + 1)).length : Int) := by omega
      rw [if_pos (by omega)]
      repeat (first | ((with_reducible refine AWp.ofC ?_ ?_); (focus exact rfl); simp only [go_sem, h5i]) | ((with_reducible refine an ?_ ?_); focus exact Au))
      refine ret_view [] ?_; simp only [go_sem]
      exact .mkTup (Vws.cons (.nil 1) (Vws.refl _))
    · have h5i : ¬ (5000 : Int) < ((cumF ps (k + 1)).length : Int) := by omega
      have hmore := hmore (by omega)
      repeat (first | ((with_reducible refine AWp.ofC ?_ ?_); (focus exact rfl); simp only [go_sem, h5i]) | ((with_reducible refine an ?_ ?_); focus exact Au))
      refine AWp.view [false] [(6, .sl 1 ((moreT ps ((levF ps k).take 0)).map aInts))] (LVw.refl _) ?_ ?_
      · intro q hq
        simp only [List.mem_singleton] at hq
        subst hq
        simp only [go_sem, pickT]
        exact .nil 1
      simp only [go_sem, pickF]
      have hMl : ∀ i, (moreT ps ((levF ps k).take i)).length ≤ 40000 := fun i => by
        have := moreT_len (ps := ps) (B := ps.length) (l := (levF ps k).take i) (acc := []) fun c hc => by rw [(hisF c (hlevk c (List.mem_of_mem_take hc))).2]; exact Nat.le_refl _
        have h2 : ((levF ps k).take i).length * ps.length ≤ 5000 * 8 := Nat.mul_le_mul (by rw [List.length_take]; omega) hl8
        have h3 : (moreT ps ((levF ps k).take i)).length = (((levF ps k).take i).foldl (fun acc c => insL acc (nextL ps c)) []).length := rfl
        rw [h3]
        simp only [List.length_nil] at this
        omega
      have hMi : ∀ i, ∀ x ∈ moreT ps ((levF ps k).take i), isF ps x = true := fun i x hx => by
        unfold moreT at hx
        rcases mem_more.1 hx with h | ⟨c, _, h⟩
        · cases h
        · exact hnxt c x h
      have hMe : moreT ps ((levF ps k).take (levF ps k).length) = levF ps (k + 1) := by rw [List.take_length]; rfl
      refine AWp.block (AWp.count 7 (levF ps k).length [6] [1, 4, 5] (fun i vs L => L = [(b, .row 42 1 CC cap)] ∧ vs = [.sl 1 ((moreT ps ((levF ps k).take i)).map aInts)]) rfl rfl ⟨rfl, rfl⟩ ?_)
      rintro i vs L hi - ⟨rfl, rfl⟩
      by_cases hil : i < (levF ps k).length
      · have hii : (i : Int) < ((levF ps k).length : Int) := by omega
        have g := getD_map (f := aInts) hil
        have hci := hlevk _ (List.getElem_mem hil)
        have hNi := hNx _ hci
        have hms := moreT_succ (ps := ps) hil
        have hMl := hMl i
        have hMi := hMi i
        have hnxc := hnxt (levF ps k)[i]
        have hnl : (nextL ps (levF ps k)[i]).length ≤ 8 := by
          have := nextT_len ps (levF ps k)[i] (levF ps k)[i].length
          have h2 := (hisF _ hci).2
          have h3 : (nextL ps (levF ps k)[i]).length = (nextT ps (levF ps k)[i] (levF ps k)[i].length).length := rfl
          omega
        generalize moreT ps ((levF ps k).take i) = M at *
        generalize hM' : moreT ps ((levF ps k).take (i + 1)) = M' at *
        generalize hnx : nextL ps (levF ps k)[i] = nx at *
        generalize (levF ps k)[i] = c at *
        simp only [go_sem]
        repeat (first | ((with_reducible refine AWp.ofC ?_ ?_); (focus exact rfl); simp only [go_sem, hii]) | ((with_reducible refine an ?_ ?_); focus exact Au))
        refine AWp.seq (AWp.block (AWp.seq ?_))
        repeat (first | (with_reducible refine AWp.seq ?_) | (with_reducible refine AWp.block ?_))
        refine AWp.mix mixed [0, 1, 2, 3, 4, 5, 6] .done (by kernel_rfl) ?_; simp only [go_sem, g]
        repeat ((with_reducible refine an ?_ ?_); focus exact As)
        refine GCall.use (.sl 1 (nx.map aInts)) (fun _ => ⟨At, hNi.val.use ⟨rfl, rfl⟩⟩) ?_
        simp only [go_sem]
        repeat (first | ((with_reducible refine AWp.ofC ?_ ?_); (focus exact rfl); simp only [go_sem]) | ((with_reducible refine an ?_ ?_); focus exact Au))
        refine AWp.block (AWp.count 9 nx.length [6] [1, 4, 5, 7, 8] (fun j vs L => L = [(b, .row 42 1 CC cap)] ∧ vs = [.sl 1 ((insL M (nx.take j)).map aInts)]) rfl rfl ⟨rfl, rfl⟩ ?_)
        rintro j vs L hj - ⟨rfl, rfl⟩
        by_cases hjl : j < nx.length
        · have hji : (j : Int) < (nx.length : Int) := by omega
          have g2 := getD_map (f := aInts) hjl
          have hcj := hisF _ (hnxc _ (List.getElem_mem hjl))
          have hIns := ref23_insert (insL M (nx.take j)) nx[j] (by have := insL_len (nx.take j) M; rw [List.length_take] at this; omega) hcj.1 fun x hx => by
            have hx1 : isF ps x = true := by
              rcases mem_insL.1 hx with h | h
              · exact hMi x h
              · exact hnxc x (List.mem_of_mem_take h)
            have := hisF x hx1
            exact ⟨this.1, by rw [this.2, hcj.2]⟩
          have his := insL_succ (acc := M) hjl
          rw [← his] at hIns
          simp only [go_sem]
          repeat (first | ((with_reducible refine AWp.ofC ?_ ?_); (focus exact rfl); simp only [go_sem, hji, g2]) | ((with_reducible refine an ?_ ?_); focus exact Au))
          repeat ((with_reducible refine an ?_ ?_); focus exact As)
          refine (hIns).val.use ?_; simp only [go_sem]
          repeat (first | ((with_reducible refine AWp.ofC ?_ ?_); (focus exact rfl); simp only [go_sem]) | ((with_reducible refine an ?_ ?_); focus exact Au))
          exact ⟨_, List.Sublist.refl _, rfl⟩
        · have hji : ¬ (j : Int) < (nx.length : Int) := by omega
          have hje : j = nx.length := by omega
          subst hje
          rw [List.take_length, ← hms]
          simp only [go_sem]
          repeat (first | ((with_reducible refine AWp.ofC ?_ ?_); (focus exact rfl); simp only [go_sem, hji]) | ((with_reducible refine an ?_ ?_); focus exact Au))
          exact ⟨_, List.Sublist.refl _, rfl, by rw [hM']⟩
      · have hii : ¬ (i : Int) < ((levF ps k).length : Int) := by omega
        have hie : i = (levF ps k).length := by omega
        subst hie
        rw [hMe]
        simp only [go_sem]
        repeat (first | ((with_reducible refine AWp.ofC ?_ ?_); (focus exact rfl); simp only [go_sem, hii]) | ((with_reducible refine an ?_ ?_); focus exact Au))
        refine ⟨_, List.Sublist.refl _, _, ?_, k + 1, _, rfl, ?_, by omega, hmore, by omega, rfl⟩
        · omega
        · rw [hCC, ← hcl1]
          exact .row _ _ _
end Go.AL
end
section
/- Great traces; how many events there are. No condition. -/
namespace Go.AL
open Go Go.RowKit
set_option maxRecDepth 4000
def asg20 (e : Ev) : Bool := decide (20 < (e.asg.length : Int))
def bigP (x : Pr) : Bool := decide (70 < (x.evs.length : Int)) || (decide (20 < (x.vars.length : Int)) || x.evs.any asg20)
def bigF (ps : List Pr) : Bool := decide (10 < (ps.length : Int)) || ps.any bigP
theorem off_small {ps : List Pr} (hs : Sm ps) : ∀ k, k ≤ ps.length → off ps k ≤ k * 1000000 := by
  intro k
  induction k with
  | zero => intro _; simp [off]
  | succ k ih =>
    intro hk
    rw [off_succ (by omega)]
    have h1 := ih (by omega)
    have h2 := hs.evs _ (List.getElem_mem (show k < ps.length by omega))
    omega
end Go.AL
end
section
/- The package cuts: the levels. No condition. -/
namespace Go.AL
open Go Go.RowKit
set_option maxRecDepth 4000
/-- How many levels hold a cut. -/
def nlev (ps : List Pr) : Nat := (List.range (off ps ps.length + 2)).findIdx fun k => (levF ps k).isEmpty
theorem range_findIdx (p : Nat → Bool) (n : Nat) (h : (List.range n).findIdx p < n) : p ((List.range n).findIdx p) = true := by
  have w : (List.range n).findIdx p < (List.range n).length := by rw [List.length_range]; exact h
  have := List.findIdx_getElem (w := w)
  rwa [List.getElem_range] at this
theorem nlev_lt {ps : List Pr} {j : Nat} (h : j < nlev ps) : levF ps j ≠ [] := fun e => by
  unfold nlev at h
  have hl : j < (List.range (off ps ps.length + 2)).length := Nat.lt_of_lt_of_le h List.findIdx_le_length
  have := List.not_of_lt_findIdx h
  rw [List.getElem_range] at this
  simp [e] at this
theorem nlev_eq {ps : List Pr} {k : Nat} (hk : k ≤ nlev ps) (h : levF ps k = []) : k = nlev ps := by
  rcases Nat.lt_or_ge k (nlev ps) with h1 | h1
  · exact absurd h (nlev_lt h1)
  · omega
theorem nlev_succ {ps : List Pr} (hv : validF ps = true) {k : Nat} (hk : k ≤ nlev ps) (h : levF ps k ≠ []) : k + 1 ≤ nlev ps := by
  rcases Nat.lt_or_ge k (nlev ps) with h1 | h1
  · omega
  · exfalso
    have e : k = nlev ps := by omega
    have hko : k ≤ off ps ps.length := by
      rcases Nat.lt_or_ge (off ps ps.length) k with h | h'
      · exact absurd (levF_end hv h) ‹levF ps k ≠ []›
      · exact h'
    have this : (levF ps (nlev ps)).isEmpty = true := range_findIdx (fun k => (levF ps k).isEmpty) _ (show nlev ps < _ by omega)
    rw [e] at h
    exact h (List.isEmpty_iff.1 this)
def lvsF (ps : List Pr) (k : Nat) : List AV := (List.range k).map fun j => aRows (levF ps j)
theorem lvsF_succ (ps : List Pr) (k : Nat) : lvsF ps (k + 1) = lvsF ps k ++ [aRows (levF ps k)] := by unfold lvsF; rw [List.range_succ, List.map_append]; rfl
theorem lvsF_len (ps : List Pr) (k : Nat) : (lvsF ps k).length = k := by simp [lvsF]
/-- The levels, as they are handed back. -/
noncomputable def aLvs (ps : List Pr) : AV := if validF ps = true then (if (cutsF ps).length ≤ 5000 then .tup [.sl 1 (lvsF ps (nlev ps)), ai 0] else .tup [.sl 1 [], ai 16]) else .tup [.sl 1 [], ai 1]
theorem cuts_levels (ps : List Pr) (hs : Sm ps) : PC Go.Proofs.Tryz.prog 75 [aTr ps] (aLvs ps) := by
  have hva := trace_Valid ps hs
  unfold aLvs
  refine PC.enter 35 [.tmp 2, .tmp 3] [1, 4, 32] Go.Proofs.Tryz.func75 rfl rfl rfl rfl rfl (by simp) (AWp.of ?_); simp only [go_sem]
  repeat (first | ((with_reducible refine AWp.ofC ?_ ?_); (focus exact rfl); simp only [go_sem]) | ((with_reducible refine an ?_ ?_); focus exact Au))
  repeat ((with_reducible refine an ?_ ?_); focus exact As)
  refine (hva).val.use ?_; simp only [go_sem]
  cases hv : validF ps with
  | false =>
    repeat (first | ((with_reducible refine AWp.ofC ?_ ?_); (focus exact rfl); simp only [go_sem]) | ((with_reducible refine an ?_ ?_); focus exact Au))
    refine ret_view [] ?_; simp only [go_sem]
    exact .mkTup (Vws.cons (.nil 1) (Vws.refl _))
  | true =>
    obtain ⟨hl1, hl8⟩ := valid_len hv
    have hof := cuts_of ps hs hv
    rw [if_pos rfl]
    unfold aMk at hof
    repeat (first | ((with_reducible refine AWp.ofC ?_ ?_); (focus exact rfl); simp only [go_sem]) | ((with_reducible refine an ?_ ?_); focus exact Au))
    repeat ((with_reducible refine an ?_ ?_); focus exact As)
    refine (hof).val.use ?_; simp only [go_sem]
    intro b4
    repeat (first | ((with_reducible refine AWp.ofC ?_ ?_); (focus exact rfl); simp only [go_sem]) | ((with_reducible refine an ?_ ?_); focus exact Au))
    intro b0 b1 g1
    have n1 : ¬ b1 = b0 := by omega
    have n2 : ¬ b0 = b1 := by omega
    refine AWp.view [true, true] [(5, .sl 1 ((levF ps 0).map aInts))] (LVw.refl _) ?_ ?_
    · intro q hq
      simp only [List.mem_singleton] at hq
      subst hq
      simp only [go_sem, pickT]
      have e : List.replicate ps.length (ai 0) = (List.replicate ps.length (0 : Int)).map ai := (List.map_replicate).symm
      rw [e]
      exact Vw.ofLs' (t := 42) (cap := 1) (if_pos rfl) rfl (Vws.cons (Vw.ofLs (t := 3) (cap := ps.length) (by simp only [lk, n2, if_false, if_true]) (by rw [List.length_map, List.length_replicate])) .nil)
    simp only [go_sem, pickF]
    have hz0 : (0 : Int) = ((cumF ps 0).length : Nat) := rfl
    have hof1 : 1 ≤ off ps ps.length + 1 := by omega
    repeat (first | ((with_reducible refine AWp.ofC ?_ ?_); (focus exact rfl); simp only [go_sem]) | ((with_reducible refine an ?_ ?_); focus exact Au))
    refine AWp.block (AWp.loopN [5, 6, 7] [4] (fun m vs L => ∃ (k : Nat) (v : AV), vs = [.sl 1 ((levF ps k).map aInts), v, ai (cumF ps k).length] ∧ AppSt 31 1 (lvsF ps k) v L ∧ (cumF ps k).length ≤ 5000 ∧ (levF ps k).length ≤ 40000 ∧ k ≤ nlev ps ∧ k ≤ off ps ps.length + 1 ∧ m = off ps ps.length + 1 - k) (off ps ps.length + 1) ⟨0, anil, rfl, .nil, by simp [cumF], by simp [levF], by omega, by omega, rfl⟩ ?_)
    rintro m vs L - ⟨k, v, rfl, hA, h5, hl4, hkn, hk, rfl⟩
    by_cases hlv : levF ps k = []
    · have hz : ¬ (0 : Int) < ((levF ps k).length : Int) := by rw [hlv]; simp
      have hcut : cutsF ps = cumF ps k := by
        unfold cutsF
        rw [show off ps ps.length + 1 = k + (off ps ps.length + 1 - k) by omega, cumF_end hlv]
      rw [hcut, if_pos h5, ← nlev_eq hkn hlv]
      generalize lvsF ps k = ys at *
      rcases hA.inv with ⟨e1, rfl, rfl⟩ | ⟨bq, cap, rfl, rfl⟩
      · simp only [go_sem]
        repeat (first | ((with_reducible refine AWp.ofC ?_ ?_); (focus exact rfl); simp only [go_sem, hz]) | ((with_reducible refine an ?_ ?_); focus exact Au))
        refine ret_view [] ?_; simp only [go_sem]
        rw [e1]
        exact .mkTup (Vws.cons (.nil 1) (Vws.refl _))
      · simp only [go_sem]
        repeat (first | ((with_reducible refine AWp.ofC ?_ ?_); (focus exact rfl); simp only [go_sem, hz]) | ((with_reducible refine an ?_ ?_); focus exact Au))
        refine ret_view [true] ?_; simp only [go_sem]
        exact .mkTup (Vws.cons (Vw.ofLs (if_pos rfl) rfl) (Vws.refl _))
    · have hko : k ≤ off ps ps.length := by
        rcases Nat.lt_or_ge (off ps ps.length) k with h | h
        · exact absurd (levF_end hv h) hlv
        · exact h
      have hpos : 0 < (levF ps k).length := List.length_pos_iff.2 hlv
      have hposi : (0 : Int) < ((levF ps k).length : Int) := by omega
      have hcs := cumF_succ ps k
      have hcsl : (cumF ps (k + 1)).length = (cumF ps k).length + (levF ps k).length := by rw [hcs, List.length_append]
      have hmono := cumF_mono (ps := ps) (j := k + 1) (k := off ps ps.length + 1) (by omega)
      have hcutl : (cumF ps (off ps ps.length + 1)).length = (cutsF ps).length := rfl
      have hsum := nlev_succ hv hkn hlv
      have hmore : (levF ps k).length ≤ 5000 → (levF ps (k + 1)).length ≤ 40000 := fun h => by
        have := moreT_len (ps := ps) (B := ps.length) (l := levF ps k) (acc := []) fun c hc => by rw [(isF_iff.1 ((mem_levF hv k c).1 hc).1).1]; exact Nat.le_refl _
        have h2 : (levF ps k).length * ps.length ≤ 5000 * 8 := Nat.mul_le_mul h hl8
        have h3 : (levF ps (k + 1)).length = ((levF ps k).foldl (fun acc c => insL acc (nextL ps c)) []).length := rfl
        rw [h3]
        simp only [List.length_nil] at this
        omega
      have hnx := fun h => maker_next ps hs hv k h
      unfold aMk aRows at hnx
      have hys := lvsF_succ ps k
      have hyl := lvsF_len ps k
      unfold aRows at hys
      have hofl : off ps ps.length ≤ 8000000 := by
        have := off_small hs ps.length (Nat.le_refl _)
        omega
      rcases hA.inv with ⟨e1, rfl, rfl⟩ | ⟨bq, cap, rfl, rfl⟩
      · simp only [go_sem]
        repeat (first | ((with_reducible refine AWp.ofC ?_ ?_); (focus exact rfl); simp only [go_sem, hposi]) | ((with_reducible refine an ?_ ?_); focus exact Au))
        repeat (first | ((with_reducible refine AWp.ofC ?_ ?_); (focus exact rfl); simp only [go_sem]) | ((with_reducible refine an ?_ ?_); focus exact Au))
        refine ⟨fun h9 => ?_, fun h9 => ?_⟩
        · rw [if_neg (by omega)]
          repeat (first | ((with_reducible refine AWp.ofC ?_ ?_); (focus exact rfl); simp only [go_sem]) | ((with_reducible refine an ?_ ?_); focus exact Au))
          refine ret_view [] ?_; simp only [go_sem]
          exact .mkTup (Vws.cons (.nil 1) (Vws.refl _))
        · have hnx := hnx (by omega)
          repeat (first | ((with_reducible refine AWp.ofC ?_ ?_); (focus exact rfl); simp only [go_sem]) | ((with_reducible refine an ?_ ?_); focus exact Au))
          intro b' cap' hc'
          repeat (first | ((with_reducible refine AWp.ofC ?_ ?_); (focus exact rfl); simp only [go_sem]) | ((with_reducible refine an ?_ ?_); focus exact Au))
          repeat ((with_reducible refine an ?_ ?_); focus exact As)
          refine (hnx).val.use ?_; simp only [go_sem]
          repeat (first | ((with_reducible refine AWp.ofC ?_ ?_); (focus exact rfl); simp only [go_sem]) | ((with_reducible refine an ?_ ?_); focus exact Au))
          refine ⟨_, List.Sublist.refl _, _, ?_, k + 1, .ls b' 1 0 1 cap', by rw [hcsl]; simp, ?_, by omega, hmore (by omega), hsum, by omega, rfl⟩
          · omega
          · rw [hys, e1]; exact .row b' [_] cap'
      · simp only [go_sem]
        repeat (first | ((with_reducible refine AWp.ofC ?_ ?_); (focus exact rfl); simp only [go_sem, hposi]) | ((with_reducible refine an ?_ ?_); focus exact Au))
        repeat (first | ((with_reducible refine AWp.ofC ?_ ?_); (focus exact rfl); simp only [go_sem]) | ((with_reducible refine an ?_ ?_); focus exact Au))
        refine ⟨fun h9 => ?_, fun h9 => ?_⟩
        · rw [if_neg (by omega)]
          repeat (first | ((with_reducible refine AWp.ofC ?_ ?_); (focus exact rfl); simp only [go_sem]) | ((with_reducible refine an ?_ ?_); focus exact Au))
          refine ret_view [true] ?_; simp only [go_sem]
          exact .mkTup (Vws.cons (.nil 1) (Vws.refl _))
        · have hnx := hnx (by omega)
          repeat (first | ((with_reducible refine AWp.ofC ?_ ?_); (focus exact rfl); simp only [go_sem, hyl]) | ((with_reducible refine an ?_ ?_); focus exact Au))
          intro b' cap' hc'
          repeat (first | ((with_reducible refine AWp.ofC ?_ ?_); (focus exact rfl); simp only [go_sem]) | ((with_reducible refine an ?_ ?_); focus exact Au))
          repeat ((with_reducible refine an ?_ ?_); focus exact As)
          refine (hnx).val.use ?_; simp only [go_sem]
          repeat (first | ((with_reducible refine AWp.ofC ?_ ?_); (focus exact rfl); simp only [go_sem]) | ((with_reducible refine an ?_ ?_); focus exact Au))
          refine ⟨_, List.Sublist.refl _, _, ?_, k + 1, .ls b' 1 0 (k + 1) cap', by rw [hcsl]; simp, ?_, by omega, hmore (by omega), hsum, by omega, rfl⟩
          · omega
          · rw [hys, show List.take k (lvsF ps k) = lvsF ps k from List.take_of_length_le (by omega)]; exact AppSt.snoc b' cap' (k + 1) (congrArg (· + 1) hyl.symm)
end Go.AL
end
