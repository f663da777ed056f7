/- Texts of this claim's proof: WDrop+1, WDv+1, WEf+1, WCl+1, WLp+1, WWl+1, WMd+1, WPu+1, WNc+1, WOb, WOa. No condition. -/
import Derived.Test.YtkijaghkhjoomaaGreatM0
import Derived.Test.YtkijaghkhjoomaaGreatM1
import Derived.Test.YtkijaghkhjoomaaGreatM2
import Derived.Test.YtkijaghkhjoomaaGreatM3
import Derived.Test.YtkijaghkhjoomaaGreatM4
import Derived.Test.YtkijaghkhjoomaaGreatM5
import Derived.Test.YtkijaghkhjoomaaGreatM6
import Derived.Test.YtkijaghkhjoomaaGreatM7
import Derived.Test.YtkijaghkhjoomaaGreatM8
import Derived.Test.YtkijaghkhjoomaaGreatM9
import Derived.Test.YtkijaghkhjoomaaGreatM10
import Derived.Test.YtkijaghkhjoomaaGreatM11
import Derived.Test.YtkijaghkhjoomaaGreatM12
section
namespace Go.AL
open Go Go.RowKit
set_option maxRecDepth 4000
theorem mfind_iset (y : Int) (s : List Int) : (mfind (intV y) (s.map intV)).isSome = decide (y ∈ s) ∧ ∀ i, mfind (intV y) (s.map intV) = some i → i < s.length := by
  induction s with
  | nil => exact ⟨by simp [mfind], fun i h => by simp [mfind] at h⟩
  | cons x s ih =>
    have hk : keyB (intV y) (intV x) = decide (y = x) := rfl
    simp only [List.map_cons, mfind, hk, decide_eq_true_eq]
    by_cases h : y = x
    · rw [if_pos h]; exact ⟨by simp [h], fun i hi => by cases hi; simp⟩
    · rw [if_neg h]
      cases hf : mfind (intV y) (s.map intV) with
      | none => rw [hf] at ih; exact ⟨by simp [h]; simpa using ih.1, fun i hi => by cases hi⟩
      | some k => rw [hf] at ih; exact ⟨by simp [h]; simpa using ih.1, fun i hi => by cases hi; simpa using ih.2 k rfl⟩
theorem fits_int (y : Int) : (KK.sc .int).fits (intV y) = true := by simp [KK.fits, intV, SK.vfits]
theorem fits_iset (s : List Int) : ((s.map intV).all (KK.sc .int).fits) = true := by
  simp only [List.all_map, List.all_eq_true]; intro x _; exact fits_int x
end Go.AL
end
section
namespace Go.AL
open Go Go.RowKit
set_option maxRecDepth 4000
/-- The sender of a message is the process that the receive names. -/
theorem recv_peer {ps : List Pr} (hm : msgF ps = none) {p : Nat} (hp : p < ps.length) {i : Nat} (hi : i < ps[p].evs.length) (hk : ps[p].evs[i].kind = 3) :
    ∃ (hq : ps[p].evs[i].peer.toNat < ps.length) (j : Nat) (hj : j < ps[ps[p].evs[i].peer.toNat].evs.length), sndr ps ps[p].evs[i].msg = ((ps[p].evs[i].peer.toNat : Int), (j : Int) + 1) ∧ ps[ps[p].evs[i].peer.toNat].evs[j].kind = 2 ∧ ps[ps[p].evs[i].peer.toNat].evs[j].msg = ps[p].evs[i].msg := by
  have hev := evIds_get hp hi
  have hlt : off ps p + i < (evIds ps).length := (List.getElem?_eq_some_iff.1 hev).1
  have hpz : pairF ps (off ps p + i) = 0 := by
    unfold msgF at hm
    split at hm
    · cases hm
    · rename_i hn
      rw [List.find?_eq_none] at hn
      simpa using hn _ (List.mem_range.2 hlt)
  unfold pairF at hpz
  rw [hev] at hpz
  simp only at hpz
  rw [if_neg (by omega), if_pos hk] at hpz
  split at hpz
  · cases hpz
  · split at hpz
    · cases hpz
    · rename_i hs
      have hs : sendsB ps ps[p].evs[i].peer ps[p].evs[i].msg (p : Int) = true := by simpa using hs
      unfold sendsB at hs
      split at hs
      · rename_i x hx
        obtain ⟨hq, e⟩ := List.getElem?_eq_some_iff.1 hx
        subst e
        obtain ⟨e, he, h1⟩ := List.any_eq_true.1 hs
        obtain ⟨j, hj, rfl⟩ := List.getElem_of_mem he
        simp only [Bool.and_eq_true, decide_eq_true_iff] at h1
        refine ⟨hq, j, hj, ?_, h1.1.1, h1.1.2⟩
        have := pair_unique hm hq hj (.inl h1.1.1)
        rw [h1.1.1, h1.1.2] at this
        exact this
      · cases hs
end Go.AL
end
section
namespace Go.AL
open Go Go.RowKit
set_option maxRecDepth 4000
theorem sumN_set : ∀ (l : List Nat) (i x : Nat) (h : i < l.length), (l.set i x).sum + l[i] = l.sum + x
  | a :: r, 0, x, _ => by simp only [List.set_cons_zero, List.sum_cons, List.getElem_cons_zero]; omega
  | a :: r, i + 1, x, h => by
    have := sumN_set r i x (by simpa using h)
    simp only [List.set_cons_succ, List.sum_cons, List.getElem_cons_succ]; omega
theorem totC_set {c : List Int} {q : Nat} {x : Int} (hq : q < c.length) : totC (c.set q x) + (c[q]).toNat = totC c + x.toNat := by
  unfold totC
  rw [List.map_set]
  have := sumN_set (c.map Int.toNat) q x.toNat (by simpa using hq)
  simpa using this
/-- What is missing is a send that the cut has not. -/
theorem miss_inv {ps : List Pr} (hv : validF ps = true) {c : List Int} (_hc : c.length = ps.length) {x : Eid × Eid} (h : missF ps c = some x) :
    ∃ (p : Nat) (_ : p < ps.length) (i : Nat) (_ : i < ps[p].evs.length) (q : Nat) (_ : q < ps.length) (j : Nat) (_ : j < ps[q].evs.length), ps[p].evs[i].kind = 3 ∧ (i : Int) + 1 ≤ cAt c p ∧ sndr ps ps[p].evs[i].msg = ((q : Int), (j : Int) + 1) ∧ x = (((q : Int), (j : Int) + 1), ((p : Int), (i : Int) + 1)) ∧ cAt c q < (j : Int) + 1 := by
  unfold missF at h
  rw [Option.map_eq_some_iff] at h
  obtain ⟨y, hy, rfl⟩ := h
  have hb := List.find?_some hy
  obtain ⟨k, hk⟩ := List.getElem?_of_mem (List.mem_of_find?_eq_some hy)
  obtain ⟨p, hp, i, hi, _, rfl⟩ := evIds_inv hk
  unfold badEv at hb
  simp only [Bool.and_eq_true, decide_eq_true_eq] at hb
  obtain ⟨⟨h1, h2⟩, h3⟩ := hb
  obtain ⟨hq, j, hj, e, _, _⟩ := recv_peer (valid_parts hv).2.2 hp hi h1
  have e' : findIn (evIds ps) 2 ps[p].evs[i].msg = ((ps[p].evs[i].peer.toNat : Int), (j : Int) + 1) := e
  rw [e'] at h3
  exact ⟨p, hp, i, hi, _, hq, j, hj, h1, h2, e, by rw [e'], h3⟩
theorem miss_next {ps : List Pr} (hv : validF ps = true) {c : List Int} (hc : c.length = ps.length) (hr : inRangeF ps c = true) {x : Eid × Eid} (h : missF ps c = some x) :
    (c.set x.1.1.toNat x.1.2).length = ps.length ∧ inRangeF ps (c.set x.1.1.toNat x.1.2) = true ∧ totC c < totC (c.set x.1.1.toNat x.1.2) := by
  obtain ⟨p, hp, i, hi, q, hq, j, hj, _, _, _, rfl, h1⟩ := miss_inv hv hc h
  have hl : (c.set q ((j : Int) + 1)).length = ps.length := by rw [List.length_set]; exact hc
  refine ⟨hl, ?_, ?_⟩
  · rw [Int.toNat_natCast, inRange_iff hl]
    intro r hr'
    rw [cAt_nat (show r < (c.set q ((j : Int) + 1)).length by omega), List.getElem_set]
    split
    · rename_i e; subst e; omega
    · have := (inRange_iff hc).1 hr r hr'
      rw [cAt_nat (show r < c.length by omega)] at this
      exact this
  · have := totC_set (c := c) (q := q) (x := (j : Int) + 1) (by omega)
    rw [cAt_nat (show q < c.length by omega)] at h1
    have h0 := ((inRange_iff hc).1 hr q hq).1
    rw [cAt_nat (show q < c.length by omega)] at h0
    simp only [Int.toNat_natCast]
    have h3 : ((j : Int) + 1).toNat = j + 1 := by omega
    rw [h3] at this
    omega
theorem closeN_more {ps : List Pr} (hv : validF ps = true) : ∀ (n : Nat) (c : List Int), c.length = ps.length → inRangeF ps c = true → off ps ps.length ≤ totC c + n → closeN ps (n + 1) c = closeN ps n c
  | 0, c, hc, hr, hn => by
    unfold closeN
    cases h : missF ps c with
    | none => rfl
    | some x =>
      obtain ⟨a1, a2, a3⟩ := miss_next hv hc hr h
      have := totC_le a1 a2
      omega
  | n + 1, c, hc, hr, hn => by
    rw [closeN]
    conv => rhs; rw [closeN]
    cases h : missF ps c with
    | none => rfl
    | some x =>
      obtain ⟨a1, a2, a3⟩ := miss_next hv hc hr h
      exact closeN_more hv n _ a1 a2 (by omega)
theorem closeN_of {ps : List Pr} (hv : validF ps = true) {c : List Int} (hc : c.length = ps.length) (hr : inRangeF ps c = true) {n : Nat} (h : off ps ps.length ≤ totC c + n) : ∀ k, closeN ps (n + k) c = closeN ps n c
  | 0 => rfl
  | k + 1 => by rw [← Nat.add_assoc, closeN_more hv (n + k) c hc hr (by omega), closeN_of hv hc hr h k]
theorem closeF_step {ps : List Pr} (hv : validF ps = true) {c : List Int} (hc : c.length = ps.length) (hr : inRangeF ps c = true) {x : Eid × Eid} (h : missF ps c = some x) : closeF ps c = closeF ps (c.set x.1.1.toNat x.1.2) := by
  obtain ⟨a1, a2, a3⟩ := miss_next hv hc hr h
  have hle := totC_le a1 a2
  unfold closeF
  obtain ⟨m, hm⟩ : ∃ m, off ps ps.length = m + 1 := ⟨off ps ps.length - 1, by omega⟩
  rw [hm]
  conv => lhs; rw [closeN]
  rw [h]
  exact (closeN_of hv a1 a2 (n := m) (by omega) 1).symm
theorem closeF_none {ps : List Pr} {c : List Int} (h : missF ps c = none) : closeF ps c = c := by
  unfold closeF
  cases off ps ps.length with
  | zero => rfl
  | succ n => rw [closeN, h]
/-- Induction along what is missing. -/
theorem miss_ind {ps : List Pr} (hv : validF ps = true) {M : List Int → Prop} (h0 : ∀ c, c.length = ps.length → inRangeF ps c = true → missF ps c = none → M c)
    (h1 : ∀ c, c.length = ps.length → inRangeF ps c = true → ∀ x, missF ps c = some x → M (c.set x.1.1.toNat x.1.2) → M c) : ∀ c, c.length = ps.length → inRangeF ps c = true → M c := by
  suffices H : ∀ n c, c.length = ps.length → inRangeF ps c = true → off ps ps.length - totC c = n → M c from fun c hc hr => H _ c hc hr rfl
  intro n
  induction n using Nat.strongRecOn with
  | _ n ih =>
    intro c hc hr hn
    cases h : missF ps c with
    | none => exact h0 c hc hr h
    | some x =>
      obtain ⟨a1, a2, a3⟩ := miss_next hv hc hr h
      have := totC_le a1 a2
      exact h1 c hc hr x h (ih _ (by omega) _ a1 a2 rfl)
theorem closeF_ok {ps : List Pr} (hv : validF ps = true) {c : List Int} (hc : c.length = ps.length) (hr : inRangeF ps c = true) : (closeF ps c).length = ps.length ∧ inRangeF ps (closeF ps c) = true ∧ missF ps (closeF ps c) = none := by
  refine miss_ind hv (M := fun c => (closeF ps c).length = ps.length ∧ inRangeF ps (closeF ps c) = true ∧ missF ps (closeF ps c) = none) (fun c hc hr h => ?_) (fun c hc hr x h hm => ?_) c hc hr
  · rw [closeF_none h]; exact ⟨hc, hr, h⟩
  · rw [closeF_step hv hc hr h]; exact hm
/-- It is the least closed one above the counts. -/
theorem closeF_ge {ps : List Pr} (hv : validF ps = true) {c : List Int} (hc : c.length = ps.length) (hr : inRangeF ps c = true) : ∀ p, p < ps.length → cAt c p ≤ cAt (closeF ps c) p := by
  refine miss_ind hv (M := fun c => ∀ p, p < ps.length → cAt c p ≤ cAt (closeF ps c) p) (fun c hc hr h p hp => ?_) (fun c hc hr x h hm p hp => ?_) c hc hr
  · rw [closeF_none h]; exact Int.le_refl _
  · rw [closeF_step hv hc hr h]
    refine Int.le_trans ?_ (hm p hp)
    obtain ⟨_, _, _, _, q, hq, j, hj, _, _, _, rfl, h1⟩ := miss_inv hv hc h
    rw [Int.toNat_natCast, cAt_nat (show p < (c.set q ((j : Int) + 1)).length by rw [List.length_set]; omega), List.getElem_set]
    split
    · rename_i e; subst e; omega
    · rw [cAt_nat (show p < c.length by omega)]; exact Int.le_refl _
theorem closeF_least {ps : List Pr} (hv : validF ps = true) {d : List Int} (_hd : d.length = ps.length) (hcl : closedF ps d = true) {c : List Int} (hc : c.length = ps.length) (hr : inRangeF ps c = true) :
    (∀ p, p < ps.length → cAt c p ≤ cAt d p) → ∀ p, p < ps.length → cAt (closeF ps c) p ≤ cAt d p := by
  refine miss_ind hv (M := fun c => (∀ p, p < ps.length → cAt c p ≤ cAt d p) → ∀ p, p < ps.length → cAt (closeF ps c) p ≤ cAt d p) (fun c hc hr h hle => ?_) (fun c hc hr x h hm hle => ?_) c hc hr
  · rw [closeF_none h]; exact hle
  · rw [closeF_step hv hc hr h]
    refine hm fun p hp => ?_
    obtain ⟨a, ha, i, hi, q, hq, j, hj, g1, g2, g3, rfl, h1⟩ := miss_inv hv hc h
    rw [Int.toNat_natCast, cAt_nat (show p < (c.set q ((j : Int) + 1)).length by rw [List.length_set]; omega), List.getElem_set]
    split
    · rename_i e; subst e
      have := closed_iff.1 hcl a ha i hi g1 (Int.le_trans g2 (hle a ha))
      rw [g3] at this
      exact this
    · have := hle p hp
      rw [cAt_nat (show p < c.length by omega)] at this
      exact this
theorem closeF_closed {ps : List Pr} (hv : validF ps = true) {c : List Int} (hc : c.length = ps.length) (hr : inRangeF ps c = true) : closedF ps (closeF ps c) = true := by
  rw [closedF_iff, (closeF_ok hv hc hr).2.2]; rfl
end Go.AL
end
section
namespace Go.AL
open Go Go.RowKit
set_option maxRecDepth 4000
theorem stC_ok {ps : List Pr} {p : Nat} {k : Int} (hp : p < ps.length) (h0 : 0 ≤ k) (hk : k ≤ ps[p].evs.length) : (stC ps.length p k).length = ps.length ∧ inRangeF ps (stC ps.length p k) = true := by
  have hl : (stC ps.length p k).length = ps.length := by unfold stC; rw [List.length_set, List.length_replicate]
  refine ⟨hl, ?_⟩
  rw [inRange_iff hl]
  intro q hq
  unfold cAt stC
  rw [Int.toNat_natCast, getD_set0]
  split
  · rename_i e; obtain ⟨rfl, _⟩ := e; omega
  · rw [List.getD_eq_getElem?_getD, List.getElem?_replicate, if_pos hq]
    exact ⟨Int.le_refl 0, by simp⟩
end Go.AL
end
section
namespace Go.AL
open Go Go.RowKit
set_option maxRecDepth 4000
theorem stC_len (n p : Nat) (k : Int) : (stC n p k).length = n := by unfold stC; rw [List.length_set, List.length_replicate]
end Go.AL
end
section
namespace Go.AL
open Go Go.RowKit
set_option maxRecDepth 4000
theorem stC_cAt {n p q : Nat} {k : Int} (hq : q < n) : cAt (stC n p k) q = if p = q then k else 0 := by
  rw [cAt_nat (by rw [stC_len]; exact hq)]
  unfold stC
  rw [List.getElem_set, List.getElem_replicate]
theorem need_le {ps : List Pr} (hv : validF ps = true) {d : List Int} (hd : d.length = ps.length) (hr : inRangeF ps d = true) (hcl : closedF ps d = true) {q k : Nat} (hq : q < ps.length) (hk : (k : Int) ≤ cAt d q) : ∀ p, p < ps.length → cAt (closeF ps (stC ps.length q k)) p ≤ cAt d p := by
  have h0 := (inRange_iff hd).1 hr
  obtain ⟨a1, a2⟩ := stC_ok (k := (k : Int)) hq (by omega) (by have := (h0 q hq).2; omega)
  refine closeF_least hv hd hcl a1 a2 fun p hp => ?_
  rw [stC_cAt hp]
  split
  · rename_i e; subst e; exact hk
  · exact (h0 p hp).1
section
variable {ps : List Pr} {E : Elim}
end
end Go.AL
end
section
namespace Go.AL
open Go Go.RowKit
set_option maxRecDepth 4000
theorem ref12_Count (ps : List Pr) (hs : Sm ps) (hv : validF ps = true) : PC Go.Proofs.Tryz.prog 15 [aTr ps] (ai (off ps ps.length : Nat)) := by
  have h1 := ref12_Valid ps hs
  have h8 := (valid_len hv).2
  have hof := off_small hs
  rw [hv] at h1
  refine PC.enter 25 [.tmp 2] [1] Go.Proofs.Tryz.func15 rfl rfl rfl rfl rfl (by simp) (AWp.of ?_); simp only [go_sem]
  repeat (first | ((with_reducible refine AWp.ofC ?_ ?_); (focus exact rfl); simp only [go_sem]) | ((with_reducible refine an ?_ ?_); focus exact Au))
  repeat ((with_reducible refine an ?_ ?_); focus exact As)
  refine (h1).val.use ?_; simp only [go_sem]
  repeat (first | ((with_reducible refine AWp.ofC ?_ ?_); (focus exact rfl); simp only [go_sem]) | ((with_reducible refine an ?_ ?_); focus exact Au))
  refine AWp.block (AWp.count 4 ps.length [3] [1] (fun k vs L => L = [] ∧ vs = [ai (off ps k : Nat)]) rfl rfl ⟨rfl, rfl⟩ ?_)
  rintro k vs L hk - ⟨rfl, rfl⟩
  simp only [go_sem]
  repeat (first | ((with_reducible refine AWp.ofC ?_ ?_); (focus exact rfl); simp only [go_sem]) | ((with_reducible refine an ?_ ?_); focus exact Au))
  refine ⟨fun h => ?_, fun h => ?_⟩
  · have hk2 : k < ps.length := by omega
    have h2 := hof k hk
    have h3 := hs.evs _ (List.getElem_mem hk2)
    have hg := getD_map (f := aPr) hk2
    repeat (first | ((with_reducible refine AWp.ofC ?_ ?_); (focus exact rfl); simp only [go_sem, hg]) | ((with_reducible refine an ?_ ?_); focus exact Au))
    exact ⟨_, List.Sublist.refl _, rfl, by rw [off_succ hk2]; simp⟩
  · have : k = ps.length := by omega
    subst this
    repeat (first | ((with_reducible refine AWp.ofC ?_ ?_); (focus exact rfl); simp only [go_sem]) | ((with_reducible refine an ?_ ?_); focus exact Au))
    refine ret_eq ?_; simp only [go_sem]
end Go.AL
end
section
namespace Go.AL
open Go Go.RowKit
set_option maxRecDepth 4000
theorem ordL_irr {a : List Int} (h : ordL a a) : False := by
  rcases h with h | ⟨_, h⟩
  · omega
  · rw [cmpL_irr] at h; omega
theorem cum_ord {ps : List Pr} (hv : validF ps = true) : ∀ n, (cumF ps n).Pairwise ordL ∧ ∀ x ∈ cumF ps n, x.sum < n
  | 0 => ⟨List.Pairwise.nil, fun x hx => by cases hx⟩
  | n + 1 => by
    obtain ⟨h1, h2⟩ := cum_ord hv n
    rw [cumF_succ]
    have hl : ∀ x ∈ levF ps n, x.sum = n := fun x hx => ((mem_levF hv n x).1 hx).2
    refine ⟨List.pairwise_append.2 ⟨h1, ?_, fun x hx y hy => .inl (by rw [hl y hy]; exact h2 x hx)⟩, fun x hx => ?_⟩
    · refine (asc_lev hv n).imp_of_mem fun {a b} ha hb hab => .inr ⟨by rw [hl a ha, hl b hb], hab⟩
    · rcases List.mem_append.1 hx with hx | hx
      · have := h2 x hx; omega
      · have := hl x hx; omega
theorem cuts_ord {ps : List Pr} (hv : validF ps = true) : (cutsF ps).Pairwise ordL := (cum_ord hv _).1
end Go.AL
end
section
namespace Go.AL
open Go Go.RowKit
set_option maxRecDepth 4000
theorem leq_sum : ∀ {a b : List Int}, leqF a b = true → a.sum ≤ b.sum ∧ (a.sum = b.sum → a = b)
  | [], [], _ => ⟨Int.le_refl _, fun _ => rfl⟩
  | [], _ :: _, h => by have := (leqF_iff.1 h).1; simp at this
  | _ :: _, [], h => by have := (leqF_iff.1 h).1; simp at this
  | x :: a, y :: b, h => by
    obtain ⟨h1, h2⟩ := leqF_iff.1 h
    have h0 : x ≤ y := by simpa using h2 0 (by simp)
    obtain ⟨i1, i2⟩ := leq_sum (a := a) (b := b) (leqF_iff.2 ⟨by simpa using h1, fun i hi => by have := h2 (i + 1) (by simpa using hi); simpa using this⟩)
    rw [List.sum_cons, List.sum_cons]
    refine ⟨by omega, fun h => ?_⟩
    rw [i2 (by omega), show x = y by omega]
section
variable {A : List (List Int)} (hA : A.Pairwise ordL)
include hA
end
end Go.AL
end
section
/- The package causality: what it knows of a trace; events. No condition. -/
namespace Go.AL
open Go Go.RowKit
set_option maxRecDepth 4000
/-! Maps from numbers to events. -/
def mapK (M : List (Int × Eid)) : List Value := (M.map (·.1)).map intV
def mapV (M : List (Int × Eid)) : List AV := M.map fun x => aEid x.2
theorem mapK_none {m : Int} {M : List (Int × Eid)} (h : ∀ x ∈ M, x.1 ≠ m) : mfind (intV m) (mapK M) = none := by
  obtain ⟨h1, _⟩ := mfind_iset m (M.map (·.1))
  have h2 : decide (m ∈ M.map (·.1)) = false := decide_eq_false fun hm => by
    obtain ⟨x, hx, e⟩ := List.mem_map.1 hm
    exact h x hx e
  rw [h2] at h1
  unfold mapK
  cases hf : mfind (intV m) ((M.map (·.1)).map intV) with
  | none => rfl
  | some i => rw [hf] at h1; cases h1
theorem mput_new {m : Int} {e : Eid} {M : List (Int × Eid)} (h : ∀ x ∈ M, x.1 ≠ m) : mput (intV m) (aEid e) (mapK M) (mapV M) = .amap (mapK (M ++ [(m, e)])) (mapV (M ++ [(m, e)])) := by
  unfold mput
  rw [mapK_none h]
  simp [mapK, mapV]
theorem mapK_fits (M : List (Int × Eid)) : (mapK M).all (KK.sc .int).fits = true := fits_iset _
theorem mget_mem {m : Int} {e : Eid} {z : AV} : ∀ {M : List (Int × Eid)}, (M.map (·.1)).Nodup → (m, e) ∈ M → mget (intV m) (mapK M) (mapV M) z = aEid e
  | [], _, h => by cases h
  | y :: M, hn, h => by
    rw [List.map_cons, List.nodup_cons] at hn
    have hk : keyB (intV m) (intV y.1) = decide (m = y.1) := rfl
    unfold mget mapK mapV
    simp only [List.map_cons, mfind, hk, decide_eq_true_eq]
    rcases List.mem_cons.1 h with rfl | h
    · rw [if_pos rfl]; rfl
    · have hne : ¬ m = y.1 := fun e2 => hn.1 (by rw [← e2]; exact List.mem_map.2 ⟨_, h, rfl⟩)
      rw [if_neg hne]
      have ih := mget_mem (z := z) hn.2 h
      unfold mget mapK mapV at ih
      cases hf : mfind (intV m) ((M.map (·.1)).map intV) with
      | none =>
        obtain ⟨h1, _⟩ := mfind_iset m (M.map (·.1))
        rw [hf, decide_eq_true (List.mem_map.2 ⟨_, h, rfl⟩)] at h1
        cases h1
      | some i =>
        rw [hf] at ih
        exact ih
def evM (ps : List Pr) (κ : Int) (k : Nat) : List (Int × Eid) := ((evIds ps).take k).filterMap fun x => if x.2.kind = κ then some (x.2.msg, x.1) else none
theorem evM_succ {ps : List Pr} {κ : Int} {k : Nat} {x : Eid × Ev} (hx : (evIds ps)[k]? = some x) : evM ps κ (k + 1) = evM ps κ k ++ if x.2.kind = κ then [(x.2.msg, x.1)] else [] := by
  obtain ⟨hk, he⟩ := List.getElem?_eq_some_iff.1 hx
  unfold evM
  rw [List.take_succ_eq_append_getElem hk, List.filterMap_append, he]
  congr 1
  by_cases h : x.2.kind = κ
  · simp [h]
  · simp [h]
theorem evM_mem {ps : List Pr} {κ : Int} {k : Nat} {y : Int × Eid} (hy : y ∈ evM ps κ k) : ∃ (p : Nat) (hp : p < ps.length) (i : Nat) (_ : i < ps[p].evs.length), off ps p + i < k ∧ ps[p].evs[i].kind = κ ∧ y = (ps[p].evs[i].msg, ((p : Int), (i : Int) + 1)) := by
  unfold evM at hy
  rw [List.mem_filterMap] at hy
  obtain ⟨x, hx, h⟩ := hy
  obtain ⟨j, hj, hje⟩ := List.mem_take_iff_getElem.1 hx
  have hjx : (evIds ps)[j]? = some x := by rw [List.getElem?_eq_getElem (by omega), hje]
  obtain ⟨p, hp, i, hi, e1, e2⟩ := evIds_inv hjx
  split at h
  · rename_i hk
    cases h
    subst e2
    exact ⟨p, hp, i, hi, by omega, hk, rfl⟩
  · cases h
theorem evM_new {ps : List Pr} (hm : msgF ps = none) {κ : Int} (hκ : κ = 2 ∨ κ = 3) {p : Nat} (hp : p < ps.length) {i : Nat} (hi : i < ps[p].evs.length) (hk : ps[p].evs[i].kind = κ) : ∀ y ∈ evM ps κ (off ps p + i), y.1 ≠ ps[p].evs[i].msg := by
  intro y hy e
  obtain ⟨q, hq, j, hj, hlt, hkq, rfl⟩ := evM_mem hy
  simp only at e
  have u1 := pair_unique hm hp hi (by omega)
  have u2 := pair_unique hm hq hj (by omega)
  rw [hk] at u1
  rw [hkq, e, u1] at u2
  obtain ⟨a1, a2⟩ := Prod.mk.inj u2
  have hpq : p = q := by omega
  subst hpq
  omega
theorem evM_nodup {ps : List Pr} (hm : msgF ps = none) {κ : Int} (hκ : κ = 2 ∨ κ = 3) : ∀ k, ((evM ps κ k).map (·.1)).Nodup
  | 0 => by simp [evM]
  | k + 1 => by
    have ih := evM_nodup hm hκ k
    cases hx : (evIds ps)[k]? with
    | none =>
      have : evM ps κ (k + 1) = evM ps κ k := by
        unfold evM
        rw [List.take_of_length_le (by have := List.getElem?_eq_none_iff.1 hx; omega), List.take_of_length_le (by have := List.getElem?_eq_none_iff.1 hx; omega)]
      rw [this]; exact ih
    | some x =>
      rw [evM_succ hx]
      obtain ⟨p, hp, i, hi, e1, rfl⟩ := evIds_inv hx
      by_cases h : ps[p].evs[i].kind = κ
      · have hnew := evM_new hm hκ hp hi h
        rw [if_pos h, List.map_append, List.nodup_append]
        refine ⟨ih, by simp, fun a ha b hb => ?_⟩
        obtain ⟨y, hy, rfl⟩ := List.mem_map.1 ha
        have : b = ps[p].evs[i].msg := by simpa using hb
        subst this
        rw [e1] at hy
        exact hnew y hy
      · rw [if_neg h, List.append_nil]; exact ih
theorem evM_sndr {ps : List Pr} (hm : msgF ps = none) {p : Nat} (hp : p < ps.length) {i : Nat} (hi : i < ps[p].evs.length) (hk : ps[p].evs[i].kind = 3) : (ps[p].evs[i].msg, sndr ps ps[p].evs[i].msg) ∈ evM ps 2 (off ps ps.length) := by
  obtain ⟨s, hs, j, hj, e, k2, m2⟩ := sndr_some (recv_sndr hm hp hi hk)
  unfold evM
  rw [List.mem_filterMap]
  have hg := evIds_get hs hj
  refine ⟨_, List.mem_take_iff_getElem.2 ⟨off ps s + j, ?_, (List.getElem?_eq_some_iff.1 hg).2⟩, ?_⟩
  · have := (List.getElem?_eq_some_iff.1 hg).1
    rw [evIds_length] at this
    rw [evIds_length]; omega
  · simp only
    rw [if_pos k2, m2, e]
def kwV (ps : List Pr) : AV := .agg [.sl 3 (ps.map aPr), .rm (mapK (evM ps 2 (off ps ps.length))) (mapV (evM ps 2 (off ps ps.length))), .rm (mapK (evM ps 3 (off ps ps.length))) (mapV (evM ps 3 (off ps ps.length)))]
def kwL (ps : List Pr) (b11 b10 b2 k : Nat) : AHeap := [(b11, .amap (mapK (evM ps 3 k)) (mapV (evM ps 3 k))), (b10, .amap (mapK (evM ps 2 k)) (mapV (evM ps 2 k))), (b2, .row 102 3 [.agg [anil, .v (.map none), .v (.map none)]] 1)]
theorem causality_knows (ps : List Pr) (hs : Sm ps) (hv : validF ps = true) : PC Go.Proofs.Tryz.prog 72 [aTr ps] (kwV ps) := by
  obtain ⟨hl1, hl8⟩ := valid_len hv
  have hm := (valid_parts hv).2.2
  refine PC.enter 52 [.cell 2 102] [1, 3, 5, 7, 8] Go.Proofs.Tryz.func72 rfl rfl rfl rfl rfl (by simp) (AWp.of ?_); simp only [go_sem]
  intro b2
  repeat (first | ((with_reducible refine AWp.ofC ?_ ?_); (focus exact rfl); simp only [go_sem]) | ((with_reducible refine an ?_ ?_); focus exact Au))
  intro b10 g10 b11 g11a g11b
  have n1 : ¬ b10 = b11 := by omega
  have n2 : ¬ b2 = b11 := by omega
  have n3 : ¬ b2 = b10 := by omega
  have n4 : ¬ b11 = b10 := by omega
  repeat (first | ((with_reducible refine AWp.ofC ?_ ?_); (focus exact rfl); simp only [go_sem, n1, n2, n3, n4]) | ((with_reducible refine an ?_ ?_); focus exact Au))
  intros
  repeat (first | ((with_reducible refine AWp.ofC ?_ ?_); (focus exact rfl); simp only [go_sem]) | ((with_reducible refine an ?_ ?_); focus exact Au))
  refine AWp.range' ps.length [] [2, 3, 14, 15] (fun p vs L => L = kwL ps b11 b10 b2 (off ps p)) (by omega) rfl rfl rfl rfl ?_ ?_
  · rintro p vs L hp - rfl
    have hgp := getD_map (f := aPr) hp
    have hel := hs.evs _ (List.getElem_mem hp)
    have hos := off_succ hp
    simp only [go_sem]
    repeat (first | ((with_reducible refine AWp.ofC ?_ ?_); (focus exact rfl); simp only [go_sem, hgp]) | ((with_reducible refine an ?_ ?_); focus exact Au))
    intro b5 g5
    clear g5
    repeat (first | ((with_reducible refine AWp.ofC ?_ ?_); (focus exact rfl); simp only [go_sem]) | ((with_reducible refine an ?_ ?_); focus exact Au))
    refine AWp.range' ps[p].evs.length [] [2, 3, 4, 14, 15, 16, 22, 23] (fun i vs L => L = kwL ps b11 b10 b2 (off ps p + i)) (by omega) rfl rfl rfl rfl ?_ ?_
    · rintro i vs L hi - rfl
      have hge := getD_map (f := aEv) hi
      have hev := evIds_get hp hi
      have s2 := evM_succ (κ := 2) hev
      have s3 := evM_succ (κ := 3) hev
      have w2 := evM_new hm (κ := 2) (.inl rfl) hp hi
      have w3 := evM_new hm (κ := 3) (.inr rfl) hp hi
      simp only at s2 s3
      have hkw : kwL ps b11 b10 b2 (off ps p + (i + 1)) = [(b11, .amap (mapK (evM ps 3 (off ps p + i + 1))) (mapV (evM ps 3 (off ps p + i + 1)))), (b10, .amap (mapK (evM ps 2 (off ps p + i + 1))) (mapV (evM ps 2 (off ps p + i + 1)))), (b2, .row 102 3 [.agg [anil, .v (.map none), .v (.map none)]] 1)] := rfl
      have hkw0 : kwL ps b11 b10 b2 (off ps p + i) = [(b11, .amap (mapK (evM ps 3 (off ps p + i))) (mapV (evM ps 3 (off ps p + i)))), (b10, .amap (mapK (evM ps 2 (off ps p + i))) (mapV (evM ps 2 (off ps p + i)))), (b2, .row 102 3 [.agg [anil, .v (.map none), .v (.map none)]] 1)] := rfl
      rw [hkw0]
      have hfk := fits_int ps[p].evs[i].msg
      have hf2 := mapK_fits (evM ps 2 (off ps p + i))
      have hf3 := mapK_fits (evM ps 3 (off ps p + i))
      have m2 := fun h => mput_new (e := ((p : Int), (i : Int) + 1)) (w2 h)
      have m3 := fun h => mput_new (e := ((p : Int), (i : Int) + 1)) (w3 h)
      simp only [intV, aEid] at m2 m3 hfk
      clear w2 w3 hkw0 hev
      generalize evM ps 2 (off ps p + i + 1) = M2' at *
      generalize evM ps 3 (off ps p + i + 1) = M3' at *
      generalize evM ps 2 (off ps p + i) = M2 at *
      generalize evM ps 3 (off ps p + i) = M3 at *
      generalize ps[p].evs[i] = e at *
      simp only [go_sem]
      repeat (first | ((with_reducible refine AWp.ofC ?_ ?_); (focus exact rfl); simp only [go_sem, hge]) | ((with_reducible refine an ?_ ?_); focus exact Au))
      intros
      repeat (first | ((with_reducible refine AWp.ofC ?_ ?_); (focus exact rfl); simp only [go_sem]) | ((with_reducible refine an ?_ ?_); focus exact Au))
      intros
      repeat (first | ((with_reducible refine AWp.ofC ?_ ?_); (focus exact rfl); simp only [go_sem, n1, hfk, hf2]) | ((with_reducible refine an ?_ ?_); focus exact Au))
      refine ⟨fun h2 => ?_, fun h2 => ?_⟩
      · rw [if_pos h2] at s2
        rw [if_neg (by omega), List.append_nil] at s3
        repeat ((with_reducible refine an ?_ ?_); focus exact As)
        refine ⟨_, List.Sublist.refl _, ?_⟩
        rw [hkw, s2, s3, m2 h2]
      · rw [if_neg h2, List.append_nil] at s2
        repeat (first | ((with_reducible refine AWp.ofC ?_ ?_); (focus exact rfl); simp only [go_sem, n4, hfk, hf3]) | ((with_reducible refine an ?_ ?_); focus exact Au))
        refine ⟨fun h3 => ?_, fun h3 => ?_⟩
        · rw [if_pos h3] at s3
          repeat ((with_reducible refine an ?_ ?_); focus exact As)
          refine ⟨_, List.Sublist.refl _, ?_⟩
          rw [hkw, s2, s3, m3 h3]
        · rw [if_neg h3, List.append_nil] at s3
          repeat (first | ((with_reducible refine AWp.ofC ?_ ?_); (focus exact rfl); simp only [go_sem]) | ((with_reducible refine an ?_ ?_); focus exact Au))
          refine ⟨_, List.Sublist.refl _, ?_⟩
          rw [hkw, s2, s3]
    · rintro vs L - rfl
      rw [← hos]
      simp only [go_sem]
      exact ⟨_, List.Sublist.refl _, rfl⟩
  · rintro vs L - rfl
    unfold kwL
    simp only [go_sem]
    repeat (first | ((with_reducible refine AWp.ofC ?_ ?_); (focus exact rfl); simp only [go_sem, n2, n3]) | ((with_reducible refine an ?_ ?_); focus exact Au))
    refine ret_view [true, true, true] ?_; simp only [go_sem]
    simp only [go_sem, n2, n3]
    exact .mkAgg (Vws.cons (.refl _) (Vws.cons (.lm (by simp only [lk, n1, if_false, if_true]) rfl (fun i x y h1 h2 => by rw [h1] at h2; cases h2; exact .refl _)) (Vws.cons (.lm (if_pos rfl) rfl (fun i x y h1 h2 => by rw [h1] at h2; cases h2; exact .refl _)) .nil)))
/-! Events. -/
def eidOk (ps : List Pr) (x : Eid) : Bool := decide (0 ≤ x.1) && (decide (x.1 < ps.length) && (decide (1 ≤ x.2) && decide (x.2 ≤ nev ps x.1.toNat)))
theorem eidOk_iff {ps : List Pr} {x : Eid} : eidOk ps x = true ↔ VEv ps x := by
  unfold eidOk
  simp only [Bool.and_eq_true, decide_eq_true_eq]
  constructor
  · rintro ⟨h1, h2, h3, h4⟩
    have hp : x.1.toNat < ps.length := by omega
    rw [nev_get hp] at h4
    exact ⟨x.1.toNat, hp, x.2.toNat - 1, by omega, Prod.ext (by simp; omega) (by simp; omega)⟩
  · rintro ⟨p, hp, i, hi, rfl⟩
    have : ((p : Int)).toNat = p := by omega
    simp only [this]
    rw [nev_get hp]
    omega
theorem causality_exists (ps : List Pr) (hs : Sm ps) (x : Eid) : PC Go.Proofs.Tryz.prog 100 [aTr ps, aEid x] (ab (eidOk ps x)) := by
  have hel : ∀ (p : Nat) (hp : p < ps.length), ps[p].evs.length ≤ 1000000 := fun p hp => hs.evs _ (List.getElem_mem hp)
  obtain ⟨x1, x2⟩ := x
  have hv : eidOk ps (x1, x2) = (decide (0 ≤ x1) && (decide (x1 < ps.length) && (decide (1 ≤ x2) && decide (x2 ≤ nev ps x1.toNat)))) := rfl
  have haE : aEid (x1, x2) = .agg [ai x1, ai x2] := rfl
  rw [haE]
  by_cases hp : x1.toNat < ps.length
  · have hg := getD_map (f := aPr) hp
    rw [nev_get hp] at hv
    generalize ps[x1.toNat] = y at *
    refine PC.enter 34 [.tmp 4] [2, 3] Go.Proofs.Tryz.func100 rfl rfl rfl rfl rfl (by simp) (AWp.of ?_); simp only [go_sem]
    repeat (first | ((with_reducible refine AWp.ofC ?_ ?_); (focus exact rfl); simp only [go_sem]) | ((with_reducible refine an ?_ ?_); focus exact Au))
    refine AWp.seq ?_
    refine AWp.read mixed [0, 1, 2, 3, 4, 5, 6, 7, 8, 9, 10, 11, 12, 13, 14, 15, 16, 17, 18, 19, 20, 21, 22, 23, 24, 25, 26, 27, 28, 29] (by kernel_rfl) ?_; simp only [go_sem, hg]
    refine ⟨fun h1 h2 h3 => ⟨⟨⟨h1, h2⟩, h3⟩, h1, h2⟩, fun h1 h2 h3 => ⟨⟨⟨h1, h2⟩, h3⟩, hp⟩, ?_⟩
    repeat (first | ((with_reducible refine AWp.ofC ?_ ?_); (focus exact rfl); simp only [go_sem]) | ((with_reducible refine an ?_ ?_); focus exact Au))
    refine ret_eq ?_; simp only [go_sem]
    rw [hv, Bool.and_assoc, Bool.and_assoc]
  · have hg : (ps.map aPr).getD x1.toNat .any = .any := by rw [List.getD_eq_getElem?_getD, List.getElem?_eq_none (by rw [List.length_map]; omega)]; rfl
    have hx : ¬ (x1 < ps.length) ∨ x1 < 0 := by omega
    refine PC.enter 34 [.tmp 4] [2, 3] Go.Proofs.Tryz.func100 rfl rfl rfl rfl rfl (by simp) (AWp.of ?_); simp only [go_sem]
    repeat (first | ((with_reducible refine AWp.ofC ?_ ?_); (focus exact rfl); simp only [go_sem]) | ((with_reducible refine an ?_ ?_); focus exact Au))
    refine AWp.seq ?_
    have hnc : ¬ ((0 ≤ x1 ∧ x1 < ps.length) ∧ 1 ≤ x2) := by omega
    refine AWp.read mixed [0, 1, 2, 3, 4, 5, 6, 7, 8, 9, 10, 11, 12, 13, 14, 15, 16, 17, 18, 19, 20, 21, 22, 23, 24, 25, 26, 27, 28, 29] (by kernel_rfl) ?_; simp only [go_sem, hg, List.getD_nil, hnc]
    repeat (first | ((with_reducible refine AWp.ofC ?_ ?_); (focus exact rfl); simp only [go_sem]) | ((with_reducible refine an ?_ ?_); focus exact Au))
    refine ret_eq ?_; simp only [go_sem]
    have : (decide (0 ≤ x1) && decide (x1 < ps.length) && decide (1 ≤ x2)) = false := by
      rw [← Bool.not_eq_true]
      simpa using hnc
    rw [hv, ← Bool.and_assoc, ← Bool.and_assoc, this]; rfl
theorem causality_check1 (ps : List Pr) (hs : Sm ps) (x : Eid) : PC Go.Proofs.Tryz.prog 71 [aTr ps, .sl 2 [aEid x]] (ai (if validF ps = true then (if eidOk ps x = true then 0 else 2) else 1)) := by
  have h1 := trace_Valid ps hs
  have h2 := causality_exists ps hs x
  obtain ⟨x1, x2⟩ := x
  have haE : aEid (x1, x2) = .agg [ai x1, ai x2] := rfl
  rw [haE] at *
  cases hv : validF ps with
  | false =>
    rw [hv] at h1
    rw [if_neg (by decide)]
    refine PC.enter 21 [.tmp 4] [2, 6] Go.Proofs.Tryz.func71 rfl rfl rfl rfl rfl (by simp) (AWp.of ?_); simp only [go_sem]
    repeat (first | ((with_reducible refine AWp.ofC ?_ ?_); (focus exact rfl); simp only [go_sem]) | ((with_reducible refine an ?_ ?_); focus exact Au))
    repeat ((with_reducible refine an ?_ ?_); focus exact As)
    refine (h1).val.use ?_; simp only [go_sem]
    repeat (first | ((with_reducible refine AWp.ofC ?_ ?_); (focus exact rfl); simp only [go_sem]) | ((with_reducible refine an ?_ ?_); focus exact Au))
    refine ret_eq ?_; simp only [go_sem]
  | true =>
    rw [hv] at h1
    rw [if_pos rfl]
    refine PC.enter 21 [.tmp 4] [2, 6] Go.Proofs.Tryz.func71 rfl rfl rfl rfl rfl (by simp) (AWp.of ?_); simp only [go_sem]
    repeat (first | ((with_reducible refine AWp.ofC ?_ ?_); (focus exact rfl); simp only [go_sem]) | ((with_reducible refine an ?_ ?_); focus exact Au))
    repeat ((with_reducible refine an ?_ ?_); focus exact As)
    refine (h1).val.use ?_; simp only [go_sem]
    repeat (first | ((with_reducible refine AWp.ofC ?_ ?_); (focus exact rfl); simp only [go_sem]) | ((with_reducible refine an ?_ ?_); focus exact Au))
    refine AWp.range' 1 [] [2, 10, 11] (fun k vs L => L = [] ∧ (k = 0 ∨ eidOk ps (x1, x2) = true)) (by omega) rfl rfl rfl ⟨rfl, .inl rfl⟩ ?_ ?_
    · rintro k vs L hk - ⟨rfl, -⟩
      obtain rfl : k = 0 := by omega
      simp only [go_sem]
      repeat (first | ((with_reducible refine AWp.ofC ?_ ?_); (focus exact rfl); simp only [go_sem]) | ((with_reducible refine an ?_ ?_); focus exact Au))
      intro b6
      repeat (first | ((with_reducible refine AWp.ofC ?_ ?_); (focus exact rfl); simp only [go_sem]) | ((with_reducible refine an ?_ ?_); focus exact Au))
      repeat ((with_reducible refine an ?_ ?_); focus exact As)
      refine (h2).val.use ?_; simp only [go_sem]
      cases he : eidOk ps (x1, x2) with
      | true =>
        repeat (first | ((with_reducible refine AWp.ofC ?_ ?_); (focus exact rfl); simp only [go_sem]) | ((with_reducible refine an ?_ ?_); focus exact Au))
        exact ⟨_, List.Sublist.refl _, rfl⟩
      | false =>
        repeat (first | ((with_reducible refine AWp.ofC ?_ ?_); (focus exact rfl); simp only [go_sem]) | ((with_reducible refine an ?_ ?_); focus exact Au))
        refine ret_eq ?_; simp only [go_sem]
    · rintro vs L - ⟨rfl, h⟩
      rw [if_pos (h.resolve_left (by decide))]
      simp only [go_sem]
      repeat (first | ((with_reducible refine AWp.ofC ?_ ?_); (focus exact rfl); simp only [go_sem]) | ((with_reducible refine an ?_ ?_); focus exact Au))
      refine ret_eq ?_; simp only [go_sem]
theorem causality_event (ps : List Pr) (hs : Sm ps) (p : Nat) (hp : p < ps.length) (i : Nat) (hi : i < ps[p].evs.length) (k1 k2 : List Value) (v1 v2 : List AV) : PC Go.Proofs.Tryz.prog 135 [.agg [.sl 3 (ps.map aPr), .rm k1 v1, .rm k2 v2], aEid (p, (i : Int) + 1)] (aEv ps[p].evs[i]) := by
  have hel := hs.evs _ (List.getElem_mem hp)
  have hgp := getD_map (f := aPr) hp
  have hge := getD_map (f := aEv) hi
  have hi1 : (i : Int) + 1 - 1 = i := by omega
  have haE : aEid ((p : Int), (i : Int) + 1) = .agg [ai p, ai ((i : Int) + 1)] := rfl
  rw [haE]
  refine PC.enter 18 [.cell 4 85] [2, 3] Go.Proofs.Tryz.func135 rfl rfl rfl rfl rfl (by simp) (AWp.of ?_); simp only [go_sem]
  repeat (first | ((with_reducible refine AWp.ofC ?_ ?_); (focus exact rfl); simp only [go_sem]) | ((with_reducible refine an ?_ ?_); focus exact Au))
  intro b4
  refine AWp.seq ?_
  refine AWp.mix mixed [0, 1, 2, 3, 4, 5, 6, 7, 8, 9, 10, 11, 12] (.step 13 .done .done) (by kernel_rfl) ?_; simp only [go_sem, hgp, hge, hi1]
  repeat ((with_reducible refine an ?_ ?_); focus exact As)
  repeat (first | ((with_reducible refine AWp.ofC ?_ ?_); (focus exact rfl); simp only [go_sem]) | ((with_reducible refine an ?_ ?_); focus exact Au))
  refine ret_view [] ?_; simp only [go_sem]
  exact .refl _
theorem causality_back (ps : List Pr) (hs : Sm ps) (hv : validF ps = true) (p : Nat) (hp : p < ps.length) (i : Nat) (hi : i < ps[p].evs.length) : MCalls Go.Proofs.Tryz.prog 101 [kwV ps, aEid (p, (i : Int) + 1)] [] fun r L => AppSt 55 2 ((dirL ps p i).map aEid) r L := by
  have hm := (valid_parts hv).2.2
  have hel := hs.evs _ (List.getElem_mem hp)
  have hat := causality_event ps hs p hp i hi (mapK (evM ps 2 (off ps ps.length))) (mapK (evM ps 3 (off ps ps.length))) (mapV (evM ps 2 (off ps ps.length))) (mapV (evM ps 3 (off ps ps.length)))
  have hd : dirL ps p i = (if 0 < i then [((p : Int), (i : Int))] else []) ++ (if ps[p].evs[i].kind = 3 then [sndr ps ps[p].evs[i].msg] else []) := by
    unfold dirL; rw [evq_get hp hi]
  have hmg := fun h z => mget_mem (z := z) (evM_nodup hm (.inl rfl) (off ps ps.length)) (evM_sndr hm hp hi h)
  have hfk := fits_int ps[p].evs[i].msg
  have hf2 := mapK_fits (evM ps 2 (off ps ps.length))
  have haE : aEid ((p : Int), (i : Int) + 1) = .agg [ai p, ai ((i : Int) + 1)] := rfl
  have hi1 : (i : Int) + 1 - 1 = i := by omega
  rw [haE] at *
  simp only [intV] at hmg hfk
  rw [hd]
  unfold kwV
  clear hd
  generalize evM ps 2 (off ps ps.length) = M2 at *
  generalize evM ps 3 (off ps ps.length) = M3 at *
  generalize ps[p].evs[i] = e at *
  generalize sndr ps e.msg = sd at *
  obtain ⟨s1, s2⟩ := sd
  have hsd : aEid (s1, s2) = .agg [ai s1, ai s2] := rfl
  simp only [hsd] at hmg
  refine MCalls.enter' 34 [.tmp 4] [2, 3, 6, 17, 31] Go.Proofs.Tryz.func101 rfl rfl rfl rfl rfl (by simp) (AWp.of ?_); simp only [go_sem]
  repeat (first | ((with_reducible refine AWp.ofC ?_ ?_); (focus exact rfl); simp only [go_sem]) | ((with_reducible refine an ?_ ?_); focus exact Au))
  by_cases h2 : e.kind = 3
  · have hmg := hmg h2
    rw [if_pos h2]
    repeat (first | ((with_reducible refine AWp.ofC ?_ ?_); (focus exact rfl); simp only [go_sem, hi1]) | ((with_reducible refine an ?_ ?_); focus exact Au))
    refine ⟨fun h1 => ?_, fun h1 => ?_⟩
    · rw [if_pos (show 0 < i by omega)]
      repeat (first | ((with_reducible refine AWp.ofC ?_ ?_); (focus exact rfl); simp only [go_sem, hi1]) | ((with_reducible refine an ?_ ?_); focus exact Au))
      intro b cap g1
      repeat (first | ((with_reducible refine AWp.ofC ?_ ?_); (focus exact rfl); simp only [go_sem]) | ((with_reducible refine an ?_ ?_); focus exact Au))
      repeat ((with_reducible refine an ?_ ?_); focus exact As)
      refine (hat).val.use ?_; simp only [go_sem]
      repeat (first | ((with_reducible refine AWp.ofC ?_ ?_); (focus exact rfl); simp only [go_sem]) | ((with_reducible refine an ?_ ?_); focus exact Au))
      intro b6 g2
      repeat (first | ((with_reducible refine AWp.ofC ?_ ?_); (focus exact rfl); simp only [go_sem, h2, hfk, hf2, hmg]) | ((with_reducible refine an ?_ ?_); focus exact Au))
      intro b3 cap3 g3
      repeat (first | ((with_reducible refine AWp.ofC ?_ ?_); (focus exact rfl); simp only [go_sem]) | ((with_reducible refine an ?_ ?_); focus exact Au))
      refine ret_own ?_
      simp only [go_sem]
      rw [hi1]
      exact .row _ [_, _] _
    · rw [if_neg (show ¬ 0 < i by omega)]
      repeat (first | ((with_reducible refine AWp.ofC ?_ ?_); (focus exact rfl); simp only [go_sem]) | ((with_reducible refine an ?_ ?_); focus exact Au))
      repeat ((with_reducible refine an ?_ ?_); focus exact As)
      refine (hat).val.use ?_; simp only [go_sem]
      repeat (first | ((with_reducible refine AWp.ofC ?_ ?_); (focus exact rfl); simp only [go_sem]) | ((with_reducible refine an ?_ ?_); focus exact Au))
      intro b6
      repeat (first | ((with_reducible refine AWp.ofC ?_ ?_); (focus exact rfl); simp only [go_sem, h2, hfk, hf2, hmg]) | ((with_reducible refine an ?_ ?_); focus exact Au))
      intro b3 cap3 g3
      repeat (first | ((with_reducible refine AWp.ofC ?_ ?_); (focus exact rfl); simp only [go_sem]) | ((with_reducible refine an ?_ ?_); focus exact Au))
      refine ret_own ?_
      simp only [go_sem]
      exact .row _ [_] _
  · rw [if_neg h2]
    repeat (first | ((with_reducible refine AWp.ofC ?_ ?_); (focus exact rfl); simp only [go_sem, hi1]) | ((with_reducible refine an ?_ ?_); focus exact Au))
    refine ⟨fun h1 => ?_, fun h1 => ?_⟩
    · rw [if_pos (show 0 < i by omega)]
      repeat (first | ((with_reducible refine AWp.ofC ?_ ?_); (focus exact rfl); simp only [go_sem, hi1]) | ((with_reducible refine an ?_ ?_); focus exact Au))
      intro b cap g1
      repeat (first | ((with_reducible refine AWp.ofC ?_ ?_); (focus exact rfl); simp only [go_sem]) | ((with_reducible refine an ?_ ?_); focus exact Au))
      repeat ((with_reducible refine an ?_ ?_); focus exact As)
      refine (hat).val.use ?_; simp only [go_sem]
      repeat (first | ((with_reducible refine AWp.ofC ?_ ?_); (focus exact rfl); simp only [go_sem]) | ((with_reducible refine an ?_ ?_); focus exact Au))
      intro b6 g2
      repeat (first | ((with_reducible refine AWp.ofC ?_ ?_); (focus exact rfl); simp only [go_sem, h2]) | ((with_reducible refine an ?_ ?_); focus exact Au))
      refine ret_own ?_
      simp only [go_sem]
      rw [hi1]
      exact .row _ [_] _
    · rw [if_neg (show ¬ 0 < i by omega)]
      repeat (first | ((with_reducible refine AWp.ofC ?_ ?_); (focus exact rfl); simp only [go_sem]) | ((with_reducible refine an ?_ ?_); focus exact Au))
      repeat ((with_reducible refine an ?_ ?_); focus exact As)
      refine (hat).val.use ?_; simp only [go_sem]
      repeat (first | ((with_reducible refine AWp.ofC ?_ ?_); (focus exact rfl); simp only [go_sem]) | ((with_reducible refine an ?_ ?_); focus exact Au))
      intro b6
      repeat (first | ((with_reducible refine AWp.ofC ?_ ?_); (focus exact rfl); simp only [go_sem, h2]) | ((with_reducible refine an ?_ ?_); focus exact Au))
      refine ret_own ?_
      simp only [go_sem]
      exact .nil
end Go.AL
end
section
/- There are as many irreducible cuts as events. Plain laws. No condition. -/
namespace Go.AL
open Go Go.RowKit
set_option maxRecDepth 4000
/-- The least cut with the event i of p (from 0). -/
def ptF (ps : List Pr) (p i : Nat) : List Int := closeF ps (stC ps.length p ((i : Int) + 1))
section
variable {ps : List Pr} (hv : validF ps = true) {p : Nat} (hp : p < ps.length) {i : Nat} (hi : i < ps[p].evs.length)
include hv hp hi
theorem pt_is : isF ps (ptF ps p i) = true := by
  obtain ⟨a1, a2⟩ := stC_ok (k := (i : Int) + 1) hp (by omega) (by omega)
  obtain ⟨b1, b2, _⟩ := closeF_ok hv a1 a2
  exact isF_iff.2 ⟨b1, b2, closeF_closed hv a1 a2⟩
theorem pt_has : (i : Int) + 1 ≤ cAt (ptF ps p i) p := by
  obtain ⟨a1, a2⟩ := stC_ok (k := (i : Int) + 1) hp (by omega) (by omega)
  have := closeF_ge hv a1 a2 p hp
  rw [stC_cAt hp, if_pos rfl] at this
  exact this
end
theorem pt_least {ps : List Pr} (hv : validF ps = true) {p : Nat} (hp : p < ps.length) {i : Nat} {d : List Int} (hd : isF ps d = true) (h : (i : Int) + 1 ≤ cAt d p) : ∀ q, q < ps.length → cAt (ptF ps p i) q ≤ cAt d q := by
  obtain ⟨d1, d2, d3⟩ := isF_iff.1 hd
  have := need_le hv d1 d2 d3 (q := p) (k := i + 1) hp (by omega)
  have e : (((i + 1 : Nat) : Nat) : Int) = (i : Int) + 1 := by omega
  rw [e] at this
  exact this
theorem tak_at {c : List Int} {p q : Nat} (hq : q < c.length) : cAt (takC c p) q = if p = q then cAt c p - 1 else cAt c q := by
  unfold takC; rw [setc_cAt hq]
/-- Above a smaller cut some event may be taken away. -/
theorem rem_above {ps : List Pr} (hv : validF ps = true) {c d : List Int} (hc : isF ps c = true) (hd : isF ps d = true) (hle : ∀ q, q < ps.length → cAt d q ≤ cAt c q) (hne : ∃ q, q < ps.length ∧ cAt d q < cAt c q) :
    ∃ q, q < ps.length ∧ cAt d q < cAt c q ∧ remB ps c q = true := by
  obtain ⟨hl, hr, hcl⟩ := isF_iff.1 hc
  obtain ⟨dl, dr, dcl⟩ := isF_iff.1 hd
  have hm := (valid_parts hv).2.2
  have hrr := (inRange_iff hl).1 hr
  have drr := (inRange_iff dl).1 dr
  obtain ⟨p, hp, hp0, hmax⟩ := argmax (fun p => anc ps ((p : Int), cAt c p)) (fun p => cAt d p < cAt c p) ps.length hne
  have htl : (takC c p).length = ps.length := by unfold takC; rw [List.length_set]; exact hl
  refine ⟨p, hp, hp0, ?_⟩
  unfold remB
  rw [decide_eq_true (by have := (drr p hp).1; omega), Bool.true_and]
  refine isF_iff.2 ⟨htl, (inRange_iff htl).2 fun q hq => ?_, closed_iff.2 fun q hq i hi hk hle2 => ?_⟩
  · rw [tak_at (by omega)]
    split
    · rename_i e; subst e; have := hrr p hp; have := drr p hp; omega
    · exact hrr q hq
  · have hle' : (i : Int) + 1 ≤ cAt c q := by
      rw [tak_at (by omega)] at hle2
      split at hle2
      · rename_i e; subst e; omega
      · exact hle2
    have h1 := closed_iff.1 hcl q hq i hi hk hle'
    have h1d := closed_iff.1 dcl q hq i hi hk
    obtain ⟨s, hs, j, hj, e, _, _⟩ := sndr_some (recv_sndr hm hq hi hk)
    have hn := nx_send hm hq hi hk
    rw [e] at h1 h1d hn ⊢
    simp only at h1 h1d ⊢
    rw [tak_at (by omega)]
    split
    · rename_i es; subst es
      by_cases hj2 : (j : Int) + 1 = cAt c p
      · exfalso
        by_cases hq0 : cAt d q < cAt c q
        · have h2 := anc_lt hv ⟨p, hs, j, hj, rfl⟩ (.single hn)
          have h3 := hmax q hq hq0
          have hq2 := (hrr q hq).2
          have h4 := anc_line hv hq (i := i) (j := (cAt c q).toNat - 1) (by omega) (by omega)
          have h5 : (((cAt c q).toNat - 1 : Nat) : Int) + 1 = cAt c q := by omega
          rw [h5] at h4
          rw [hj2] at h2
          omega
        · have := hle q hq
          have := h1d (by omega)
          omega
      · omega
    · exact h1
theorem rem_is {ps : List Pr} {c : List Int} {p : Nat} (h : remB ps c p = true) : 0 < cAt c p ∧ isF ps (takC c p) = true := by
  unfold remB at h
  rw [Bool.and_eq_true, decide_eq_true_eq] at h
  exact h
theorem rem_pt {ps : List Pr} (hv : validF ps = true) {p : Nat} (hp : p < ps.length) {i : Nat} (hi : i < ps[p].evs.length) {q : Nat} (hq : q < ps.length) (h : remB ps (ptF ps p i) q = true) : q = p ∧ cAt (ptF ps p i) p = (i : Int) + 1 := by
  obtain ⟨h0, ht⟩ := rem_is h
  have hl := (isF_iff.1 (pt_is hv hp hi)).1
  have hh := pt_has hv hp hi
  by_cases hx : (i : Int) + 1 ≤ cAt (takC (ptF ps p i) q) p
  · have := pt_least hv hp ht hx q hq
    rw [tak_at (by omega), if_pos rfl] at this
    omega
  · rw [tak_at (by omega)] at hx
    split at hx
    · rename_i e; subst e; exact ⟨rfl, by omega⟩
    · omega
theorem filt_one {f : Nat → Bool} : ∀ {n : Nat}, ((List.range n).filter f).length = 1 ↔ ∃ p, p < n ∧ f p = true ∧ ∀ q, q < n → f q = true → q = p
  | 0 => by simp
  | n + 1 => by
    have ih := filt_one (f := f) (n := n)
    rw [List.range_succ, List.filter_append, List.length_append]
    cases h : f n with
    | false =>
      simp only [List.filter_cons_of_neg (by rw [h]; decide : ¬ f n = true), List.filter_nil, List.length_nil, Nat.add_zero]
      rw [ih]
      constructor
      · rintro ⟨p, h1, h2, h3⟩
        exact ⟨p, by omega, h2, fun q hq hf => h3 q (by
          by_cases e : q = n
          · subst e; rw [h] at hf; cases hf
          · omega) hf⟩
      · rintro ⟨p, h1, h2, h3⟩
        refine ⟨p, ?_, h2, fun q hq => h3 q (by omega)⟩
        by_cases e : p = n
        · subst e; rw [h] at h2; cases h2
        · omega
    | true =>
      simp only [List.filter_cons_of_pos h, List.filter_nil, List.length_cons, List.length_nil]
      constructor
      · intro h1
        have h0 : (List.range n).filter f = [] := List.eq_nil_of_length_eq_zero (by omega)
        rw [List.filter_eq_nil_iff] at h0
        refine ⟨n, by omega, h, fun q hq hf => ?_⟩
        by_cases e : q = n
        · exact e
        · exact absurd hf (h0 q (List.mem_range.2 (by omega)))
      · rintro ⟨p, h1, h2, h3⟩
        have e : n = p := h3 n (by omega) h
        have h0 : (List.range n).filter f = [] := List.filter_eq_nil_iff.2 fun q hq hf => by
          have := h3 q (by have := List.mem_range.1 hq; omega) hf
          have := List.mem_range.1 hq
          omega
        rw [h0]; rfl
theorem irr_iff {ps : List Pr} {c : List Int} : irrF ps c = true ↔ ∃ p, p < c.length ∧ remB ps c p = true ∧ ∀ q, q < c.length → remB ps c q = true → q = p := by
  unfold irrF remN
  rw [decide_eq_true_eq]
  exact filt_one
theorem irr_pt {ps : List Pr} (hv : validF ps = true) {p : Nat} (hp : p < ps.length) {i : Nat} (hi : i < ps[p].evs.length) : irrF ps (ptF ps p i) = true ∧ cAt (ptF ps p i) p = (i : Int) + 1 ∧ remB ps (ptF ps p i) p = true := by
  have his := pt_is hv hp hi
  obtain ⟨hl, hr, hcl⟩ := isF_iff.1 his
  have hh := pt_has hv hp hi
  obtain ⟨q, hq, h0, r1, r2⟩ := cut_remove hv hl hr hcl ⟨p, hp, by omega⟩
  have hrm : remB ps (ptF ps p i) q = true := by
    unfold remB
    rw [decide_eq_true h0, Bool.true_and]
    exact isF_iff.2 ⟨by unfold takC; rw [List.length_set]; exact hl, r1, r2⟩
  obtain ⟨rfl, he⟩ := rem_pt hv hp hi hq hrm
  exact ⟨irr_iff.2 ⟨q, by omega, hrm, fun r hr hrr => (rem_pt hv hp hi (by omega) hrr).1⟩, he, hrm⟩
theorem pt_of_irr {ps : List Pr} (hv : validF ps = true) {c : List Int} (hc : isF ps c = true) (h : irrF ps c = true) : ∃ (p : Nat) (hp : p < ps.length) (i : Nat) (_ : i < ps[p].evs.length), c = ptF ps p i := by
  obtain ⟨hl, hr, hcl⟩ := isF_iff.1 hc
  obtain ⟨p, hpc, hrm, huq⟩ := irr_iff.1 h
  have hp : p < ps.length := by omega
  obtain ⟨h0, _⟩ := rem_is hrm
  have hrp := (inRange_iff hl).1 hr p hp
  have hi : (cAt c p).toNat - 1 < ps[p].evs.length := by omega
  have hi1 : (((cAt c p).toNat - 1 : Nat) : Int) + 1 = cAt c p := by omega
  refine ⟨p, hp, _, hi, ?_⟩
  have hls := pt_least hv hp (i := (cAt c p).toNat - 1) hc (by omega)
  have hpi := pt_is hv hp hi
  have hpl := (isF_iff.1 hpi).1
  have hph := pt_has hv hp hi
  by_cases hx : ∃ q, q < ps.length ∧ cAt (ptF ps p ((cAt c p).toNat - 1)) q < cAt c q
  · exfalso
    obtain ⟨q, hq, hlt, hrq⟩ := rem_above hv hc hpi hls hx
    have := huq q (by omega) hrq
    subst this
    omega
  · apply List.ext_getElem (by omega)
    intro q h1 h2
    rw [← cAt_nat h1, ← cAt_nat h2]
    have := hls q (by omega)
    have h3 : ¬ cAt (ptF ps p ((cAt c p).toNat - 1)) q < cAt c q := fun h => hx ⟨q, by omega, h⟩
    omega
/-- As many irreducible cuts as events. -/
theorem irr_count {ps : List Pr} (hv : validF ps = true) : ((cutsF ps).filter (irrF ps)).length = off ps ps.length := by
  have hnd : ((cutsF ps).filter (irrF ps)).Nodup := ((cuts_ord hv).imp fun {a b} h e => by subst e; exact ordL_irr h).filter _
  have hpn : ((evIds ps).map fun x => ptF ps x.1.1.toNat (x.1.2.toNat - 1)).Nodup := by
    rw [List.nodup_iff_pairwise_ne, List.pairwise_map, List.pairwise_iff_getElem]
    intro a b ha hb hab e
    obtain ⟨p, hp, i, hi, k1, e1⟩ := evIds_inv (List.getElem?_eq_getElem ha)
    obtain ⟨q, hq, j, hj, k2, e2⟩ := evIds_inv (List.getElem?_eq_getElem hb)
    rw [e1, e2] at e
    simp only at e
    have t1 : ((p : Int)).toNat = p := by omega
    have t2 : ((i : Int) + 1).toNat - 1 = i := by omega
    have t3 : ((q : Int)).toNat = q := by omega
    have t4 : ((j : Int) + 1).toNat - 1 = j := by omega
    rw [t1, t2, t3, t4] at e
    obtain ⟨_, f1, r1⟩ := irr_pt hv hp hi
    obtain ⟨_, f2, _⟩ := irr_pt hv hq hj
    rw [e] at r1 f1
    have hpq := (rem_pt hv hq hj hp r1).1
    subst hpq
    have : i = j := by omega
    subst this
    omega
  have hmm : ∀ c, c ∈ (cutsF ps).filter (irrF ps) ↔ c ∈ (evIds ps).map fun x => ptF ps x.1.1.toNat (x.1.2.toNat - 1) := fun c => by
    rw [List.mem_filter, mem_cutsF hv, List.mem_map]
    constructor
    · rintro ⟨h1, h2⟩
      obtain ⟨p, hp, i, hi, rfl⟩ := pt_of_irr hv h1 h2
      refine ⟨_, List.mem_of_getElem? (evIds_get hp hi), ?_⟩
      have t1 : ((p : Int)).toNat = p := by omega
      have t2 : ((i : Int) + 1).toNat - 1 = i := by omega
      simp only [t1, t2]
    · rintro ⟨x, hx, rfl⟩
      obtain ⟨k, hk⟩ := List.getElem?_of_mem hx
      obtain ⟨p, hp, i, hi, _, rfl⟩ := evIds_inv hk
      have t1 : ((p : Int)).toNat = p := by omega
      have t2 : ((i : Int) + 1).toNat - 1 = i := by omega
      simp only [t1, t2]
      exact ⟨pt_is hv hp hi, (irr_pt hv hp hi).1⟩
  rw [((List.perm_ext_iff_of_nodup hnd hpn).2 hmm).length_eq, List.length_map, evIds_length]
end Go.AL
end
