/- Texts of this claim's proof: WMd, WMe, AlWrp, AlRng, AlGrd, WMf, WXa, WRt, WRt4. No condition. -/
import Derived.Test.YtkijaghkhjoomaaGreatM9
import Derived.Test.YtkijaghkhjoomaaGreatM6
import Derived.Test.YtkijaghkhjoomaaGreatM3
import Derived.Test.YtkijaghkhjoomaaGreatM8
import Derived.Test.YtkijaghkhjoomaaGreatM4
import Derived.Test.YtkijaghkhjoomaaGreatM5
section
/- The package cuts: list, Count, List, Level, Widest; the reference's. No condition. -/
namespace Go.AL
open Go Go.RowKit
set_option maxRecDepth 4000
theorem Vw.pre {L : AHeap} {b k n c : Nat} {t : TypeId} {xs ys : List AV} {cap : Nat} (h : lk L b = some (.row t k xs cap)) (hn : n ≤ xs.length) (ht : xs.take n = ys) : Vw L (.ls b k 0 n c) (.sl k ys) :=
  .ls h (by omega) (by rw [List.drop_zero, ht]) (by rw [List.drop_zero, ht]; exact (Vws.refl ys).2)
theorem cuts_list (ps : List Pr) (hs : Sm ps) : PC Go.Proofs.Tryz.prog 54 [aTr ps] (aLst ps) := by
  have h1 := cuts_levels' ps hs
  have hf : (lvOf ps).flatten.length ≤ 1000000 := by rw [lv_flat]; have := lst_len ps; omega
  have h2 := rows_concat (lvOf ps) (by have := lv_len hs; omega) hf
  have hR : ∀ x : List (List Int), aRows x = .sl 1 (x.map aInts) := fun _ => rfl
  have hfl := lv_flat ps
  unfold aLst
  rw [← hfl, hR]
  generalize lvOf ps = ls at *
  generalize lstE ps = e at *
  refine PC.enter 14 [.tmp 2, .tmp 3] [1] Go.Proofs.Tryz.func54 rfl rfl rfl rfl rfl (by simp) (AWp.of ?_); simp only [go_sem]
  repeat (first | ((with_reducible refine AWp.ofC ?_ ?_); (focus exact rfl); simp only [go_sem]) | ((with_reducible refine an ?_ ?_); focus exact Au))
  repeat ((with_reducible refine an ?_ ?_); focus exact As)
  refine (h1).val.use ?_; simp only [go_sem]
  repeat (first | ((with_reducible refine AWp.ofC ?_ ?_); (focus exact rfl); simp only [go_sem]) | ((with_reducible refine an ?_ ?_); focus exact Au))
  refine h2.val.mono ?_
  intro r L hC
  unfold CatS at hC
  rw [List.take_length] at hC
  rcases hC with ⟨h0, rfl, rfl⟩ | ⟨b, cap, xs, rfl, rfl, hx, ht⟩
  · simp only [go_sem]
    repeat (first | ((with_reducible refine AWp.ofC ?_ ?_); (focus exact rfl); simp only [go_sem]) | ((with_reducible refine an ?_ ?_); focus exact Au))
    refine ret_view [] ?_; simp only [go_sem]
    rw [h0]
    exact .mkTup (Vws.cons (.nil 1) (Vws.refl _))
  · simp only [go_sem]
    repeat (first | ((with_reducible refine AWp.ofC ?_ ?_); (focus exact rfl); simp only [go_sem]) | ((with_reducible refine an ?_ ?_); focus exact Au))
    refine ret_view [true] ?_; simp only [go_sem]
    exact .mkTup (Vws.cons (Vw.pre (if_pos rfl) hx ht) (Vws.refl _))
theorem cuts_List (ps : List Pr) (hs : Sm ps) : PC Go.Proofs.Tryz.prog 11 [aTr ps] (aLst ps) := by
  have h1 := cuts_list ps hs
  unfold aLst at *
  refine PC.enter 8 [.tmp 2, .tmp 3] [1] Go.Proofs.Tryz.func11 rfl rfl rfl rfl rfl (by simp) (AWp.of ?_); simp only [go_sem]
  repeat (first | ((with_reducible refine AWp.ofC ?_ ?_); (focus exact rfl); simp only [go_sem]) | ((with_reducible refine an ?_ ?_); focus exact Au))
  repeat ((with_reducible refine an ?_ ?_); focus exact As)
  refine (h1).val.use ?_; simp only [go_sem]
  repeat (first | ((with_reducible refine AWp.ofC ?_ ?_); (focus exact rfl); simp only [go_sem]) | ((with_reducible refine an ?_ ?_); focus exact Au))
  refine ret_eq ?_; simp only [go_sem]
theorem cuts_Count (ps : List Pr) (hs : Sm ps) : PC Go.Proofs.Tryz.prog 10 [aTr ps] (.tup [ai ((lstF ps).length : Nat), ai (lstE ps)]) := by
  have h1 := cuts_list ps hs
  have hR : ∀ x : List (List Int), aRows x = .sl 1 (x.map aInts) := fun _ => rfl
  unfold aLst at h1
  refine PC.enter 14 [.tmp 2, .tmp 3] [1] Go.Proofs.Tryz.func10 rfl rfl rfl rfl rfl (by simp) (AWp.of ?_); simp only [go_sem]
  repeat (first | ((with_reducible refine AWp.ofC ?_ ?_); (focus exact rfl); simp only [go_sem]) | ((with_reducible refine an ?_ ?_); focus exact Au))
  repeat ((with_reducible refine an ?_ ?_); focus exact As)
  refine (h1).val.use ?_; simp only [go_sem]
  repeat (first | ((with_reducible refine AWp.ofC ?_ ?_); (focus exact rfl); simp only [go_sem]) | ((with_reducible refine an ?_ ?_); focus exact Au))
  refine ret_eq ?_; simp only [go_sem]
/-! The full cut. -/
def fullC (ps : List Pr) : List Int := ps.map fun x => (x.evs.length : Int)
theorem fullC_at {ps : List Pr} {p : Nat} (hp : p < ps.length) : cAt (fullC ps) p = ps[p].evs.length := by
  unfold fullC
  rw [cAt_nat (by rw [List.length_map]; exact hp), List.getElem_map]
theorem fullC_is {ps : List Pr} (hv : validF ps = true) : isF ps (fullC ps) = true := by
  have hl : (fullC ps).length = ps.length := List.length_map _
  refine isF_iff.2 ⟨hl, (inRange_iff hl).2 fun p hp => ?_, closed_iff.2 fun p hp i hi hk _ => ?_⟩
  · rw [fullC_at hp]; omega
  · obtain ⟨s, hs, j, hj, e, _, _⟩ := sndr_some (recv_sndr (valid_parts hv).2.2 hp hi hk)
    rw [e]
    simp only
    rw [fullC_at hs]; omega
theorem fullC_sum (ps : List Pr) : (fullC ps).sum = off ps ps.length := by
  unfold fullC off
  rw [List.take_length]
  induction ps with
  | nil => rfl
  | cons x ps ih => rw [List.map_cons, List.sum_cons, ih, List.map_cons, List.sum_cons]; omega
theorem levF_some {ps : List Pr} (hv : validF ps = true) {k : Nat} (hk : k ≤ off ps ps.length) : levF ps k ≠ [] := fun h => by
  have := levF_nil h (off ps ps.length - k)
  rw [show k + (off ps ps.length - k) = off ps ps.length by omega] at this
  have h2 := (mem_levF hv (off ps ps.length) (fullC ps)).2 ⟨fullC_is hv, fullC_sum ps⟩
  rw [this] at h2
  cases h2
theorem nlev_off {ps : List Pr} (hv : validF ps = true) : nlev ps = off ps ps.length + 1 := by
  have h1 := lev_nlev hv
  rcases Nat.lt_or_ge (off ps ps.length) (nlev ps) with h | h
  · rcases Nat.lt_or_ge (off ps ps.length + 1) (nlev ps) with h2 | h2
    · exact absurd (levF_end hv (by omega)) (nlev_lt h2)
    · omega
  · exact absurd h1 (levF_some hv h)
/-! The cuts of a size. -/
def lvlF (l : List (List Int)) (k : Int) : List (List Int) := l.filter fun c => decide (c.sum = k)
theorem lvl_lev {ps : List Pr} (hv : validF ps = true) (k j : Nat) : lvlF (levF ps j) k = if j = k then levF ps k else [] := by
  unfold lvlF
  split
  · rename_i e; subst e
    exact List.filter_eq_self.2 fun c hc => decide_eq_true ((mem_levF hv _ c).1 hc).2
  · rename_i e
    exact List.filter_eq_nil_iff.2 fun c hc => by
      have := ((mem_levF hv _ c).1 hc).2
      rw [decide_eq_true_eq]; omega
theorem lvl_cum {ps : List Pr} (hv : validF ps = true) (k : Nat) : ∀ n, lvlF (cumF ps n) k = if k < n then levF ps k else []
  | 0 => by simp [cumF, lvlF]
  | n + 1 => by
    have h1 := lvl_cum hv k n
    have h2 := lvl_lev hv k n
    rw [cumF_succ]
    unfold lvlF at *
    rw [List.filter_append, h1, h2]
    by_cases e : n = k
    · subst e; simp
    · rw [if_neg e, List.append_nil]
      by_cases h : k < n
      · rw [if_pos h, if_pos (by omega)]
      · rw [if_neg h, if_neg (by omega)]
theorem lvl_cuts {ps : List Pr} (hv : validF ps = true) {k : Nat} (hk : k ≤ off ps ps.length) : lvlF (cutsF ps) k = levF ps k := by
  unfold cutsF
  rw [lvl_cum hv, if_pos (by omega)]
/-- The first place with the most, and how many. -/
def widF (f : Nat → Nat) : Nat → Nat × Nat
  | 0 => (0, 0)
  | n + 1 => if (widF f n).2 < f n then (n, f n) else widF f n
theorem widF_congr {f g : Nat → Nat} : ∀ {n : Nat}, (∀ k, k < n → f k = g k) → widF f n = widF g n
  | 0, _ => rfl
  | n + 1, h => by
    unfold widF
    rw [widF_congr fun k hk => h k (by omega), h n (by omega)]
noncomputable def aLevel (ps : List Pr) (k : Int) : AV := .tup (if validF ps = true then (if k < 0 ∨ (off ps ps.length : Int) < k then [.sl 1 [], ai 2] else if lstE ps = 0 then [aRows (levF ps k.toNat), ai 0] else [.sl 1 [], ai (lstE ps)]) else [.sl 1 [], ai 1])
theorem trace_Count (ps : List Pr) (hs : Sm ps) (hv : validF ps = true) : PC Go.Proofs.Tryz.prog 56 [aTr ps] (ai (off ps ps.length : Nat)) := by
  have h1 := trace_Valid ps hs
  have h8 := (valid_len hv).2
  have hof := off_small hs ps.length (Nat.le_refl _)
  have hE : (evArgs ps).length = off ps ps.length := by unfold evArgs; rw [List.length_map, evIds_length]
  rw [hv] at h1
  refine PC.enter 14 [.tmp 2] [1] Go.Proofs.Tryz.func56 rfl rfl rfl rfl rfl (by simp) (AWp.of ?_); simp only [go_sem]
  repeat (first | ((with_reducible refine AWp.ofC ?_ ?_); (focus exact rfl); simp only [go_sem]) | ((with_reducible refine an ?_ ?_); focus exact Au))
  repeat ((with_reducible refine an ?_ ?_); focus exact As)
  refine (h1).val.use ?_; simp only [go_sem]
  repeat (first | ((with_reducible refine AWp.ofC ?_ ?_); (focus exact rfl); simp only [go_sem]) | ((with_reducible refine an ?_ ?_); focus exact Au))
  intro b3
  repeat (first | ((with_reducible refine AWp.ofC ?_ ?_); (focus exact rfl); simp only [go_sem]) | ((with_reducible refine an ?_ ?_); focus exact Au))
  repeat ((with_reducible refine an ?_ ?_); focus exact As)
  refine (trace_events ps).val.use ?_; simp only [go_sem]
  refine AWp.block (AWp.rangeFunc rfl [3] (evArgs ps) (fun k L => L = [(b3, .row 3 1 [ai (k : Nat)] 1)] ∧ k ≤ (evArgs ps).length)
    (fun _ _ => False)
    rfl (trace_events1 ps hs) (fun x hx => by obtain ⟨k, hk⟩ := List.getElem?_of_mem hx; obtain ⟨_, _, _, _, _, _, rfl⟩ := evArgs_inv hk; rfl) ⟨rfl, by omega⟩ ?_ ?_ ?_)
  · rintro k x L' l hx ⟨rfl, hI⟩
    have hkl := (List.getElem?_eq_some_iff.1 hx).1
    obtain ⟨p, hp, i, hi, hk, hev, rfl⟩ := evArgs_inv hx
    simp only [go_sem]
    repeat (first | ((with_reducible refine AWp.ofC ?_ ?_); (focus exact rfl); simp only [go_sem]) | ((with_reducible refine an ?_ ?_); focus exact Au))
    exact ⟨_, List.Sublist.refl _, by simp, by omega⟩
  · rintro L' ⟨rfl, hI⟩
    rw [hE]
    simp only [go_sem]
    repeat (first | ((with_reducible refine AWp.ofC ?_ ?_); (focus exact rfl); simp only [go_sem]) | ((with_reducible refine an ?_ ?_); focus exact Au))
    refine ret_eq ?_; simp only [go_sem]
  · rintro e L' h
    exact h.elim
theorem ref12_Count (ps : List Pr) (hs : Sm ps) (hv : validF ps = true) : PC Go.Proofs.Tryz.prog 15 [aTr ps] (ai (off ps ps.length : Nat)) := by
  have h1 := ref12_Valid ps hs
  have h8 := (valid_len hv).2
  have hof := off_small hs
  rw [hv] at h1
  refine PC.enter 25 [.tmp 2] [1] Go.Proofs.Tryz.func15 rfl rfl rfl rfl rfl (by simp) (AWp.of ?_); simp only [go_sem]
  repeat (first | ((with_reducible refine AWp.ofC ?_ ?_); (focus exact rfl); simp only [go_sem]) | ((with_reducible refine an ?_ ?_); focus exact Au))
  repeat ((with_reducible refine an ?_ ?_); focus exact As)
  refine (h1).val.use ?_; simp only [go_sem]
  repeat (first | ((with_reducible refine AWp.ofC ?_ ?_); (focus exact rfl); simp only [go_sem]) | ((with_reducible refine an ?_ ?_); focus exact Au))
  refine AWp.block (AWp.count 4 ps.length [3] [1] (fun k vs L => L = [] ∧ vs = [ai (off ps k : Nat)]) rfl rfl ⟨rfl, rfl⟩ ?_)
  rintro k vs L hk - ⟨rfl, rfl⟩
  simp only [go_sem]
  repeat (first | ((with_reducible refine AWp.ofC ?_ ?_); (focus exact rfl); simp only [go_sem]) | ((with_reducible refine an ?_ ?_); focus exact Au))
  refine ⟨fun h => ?_, fun h => ?_⟩
  · have hk2 : k < ps.length := by omega
    have h2 := hof k hk
    have h3 := hs.evs _ (List.getElem_mem hk2)
    have hg := getD_map (f := aPr) hk2
    repeat (first | ((with_reducible refine AWp.ofC ?_ ?_); (focus exact rfl); simp only [go_sem, hg]) | ((with_reducible refine an ?_ ?_); focus exact Au))
    exact ⟨_, List.Sublist.refl _, rfl, by rw [off_succ hk2]; simp⟩
  · have : k = ps.length := by omega
    subst this
    repeat (first | ((with_reducible refine AWp.ofC ?_ ?_); (focus exact rfl); simp only [go_sem]) | ((with_reducible refine an ?_ ?_); focus exact Au))
    refine ret_eq ?_; simp only [go_sem]
theorem cuts_Level (ps : List Pr) (hs : Sm ps) (k : Int) : PC Go.Proofs.Tryz.prog 12 [aTr ps, ai k] (aLevel ps k) := by
  have h1 := trace_Valid ps hs
  have h2 := fun hv => trace_Count ps hs hv
  have h3 := cuts_levels' ps hs
  have hR : ∀ x : List (List Int), aRows x = .sl 1 (x.map aInts) := fun _ => rfl
  have hlv : lstE ps = 0 → validF ps = true → ∀ (n : Nat), n ≤ off ps ps.length → n < (lvOf ps).length ∧ ((lvOf ps).map aRows).getD n .any = aRows (levF ps n) := fun h0 hv n hn => by
    have hl : (lvOf ps).length = off ps ps.length + 1 := by unfold lvOf; rw [if_pos h0, List.length_map, List.length_range, nlev_off hv]
    have hlt : n < (lvOf ps).length := by omega
    refine ⟨hlt, ?_⟩
    rw [getD_map hlt]
    unfold lvOf
    simp only [h0, if_true, List.getElem_map, List.getElem_range]
  have he : validF ps = true → lstE ps = 0 ∨ lstE ps = 16 := fun h => by unfold lstE; rw [if_pos h]; split <;> simp
  unfold aLevel
  cases hv : validF ps with
  | false =>
    rw [hv] at h1
    refine PC.enter 33 [.tmp 4, .tmp 5] [2] Go.Proofs.Tryz.func12 rfl rfl rfl rfl rfl (by simp) (AWp.of ?_); simp only [go_sem]
    repeat (first | ((with_reducible refine AWp.ofC ?_ ?_); (focus exact rfl); simp only [go_sem]) | ((with_reducible refine an ?_ ?_); focus exact Au))
    repeat ((with_reducible refine an ?_ ?_); focus exact As)
    refine (h1).val.use ?_; simp only [go_sem]
    repeat (first | ((with_reducible refine AWp.ofC ?_ ?_); (focus exact rfl); simp only [go_sem]) | ((with_reducible refine an ?_ ?_); focus exact Au))
    refine ret_view [] ?_; simp only [go_sem]
    exact .mkTup (Vws.cons (.nil 1) (Vws.refl _))
  | true =>
    rw [hv] at h1
    have h2 := h2 hv
    rw [if_pos rfl]
    refine PC.enter 33 [.tmp 4, .tmp 5] [2] Go.Proofs.Tryz.func12 rfl rfl rfl rfl rfl (by simp) (AWp.of ?_); simp only [go_sem]
    repeat (first | ((with_reducible refine AWp.ofC ?_ ?_); (focus exact rfl); simp only [go_sem]) | ((with_reducible refine an ?_ ?_); focus exact Au))
    repeat ((with_reducible refine an ?_ ?_); focus exact As)
    refine (h1).val.use ?_; simp only [go_sem]
    repeat (first | ((with_reducible refine AWp.ofC ?_ ?_); (focus exact rfl); simp only [go_sem]) | ((with_reducible refine an ?_ ?_); focus exact Au))
    repeat ((with_reducible refine an ?_ ?_); focus exact As)
    refine GCall.use (ai (off ps ps.length : Nat)) (fun _ => ⟨At, (h2).val.use ⟨rfl, rfl⟩⟩) ?_; simp only [go_sem]
    repeat ((with_reducible refine an ?_ ?_); focus exact As)
    repeat (first | ((with_reducible refine AWp.ofC ?_ ?_); (focus exact rfl); simp only [go_sem]) | ((with_reducible refine an ?_ ?_); focus exact Au))
    refine ⟨fun h => ?_, fun h => ?_⟩
    · repeat (first | ((with_reducible refine AWp.ofC ?_ ?_); (focus exact rfl); simp only [go_sem]) | ((with_reducible refine an ?_ ?_); focus exact Au))
      rw [if_pos (by omega)]
      refine ret_view [] ?_; simp only [go_sem]
      exact .mkTup (Vws.cons (.nil 1) (Vws.refl _))
    · intro h'
      rw [if_neg (by omega)]
      repeat (first | ((with_reducible refine AWp.ofC ?_ ?_); (focus exact rfl); simp only [go_sem]) | ((with_reducible refine an ?_ ?_); focus exact Au))
      repeat ((with_reducible refine an ?_ ?_); focus exact As)
      refine (h3).val.use ?_; simp only [go_sem]
      rcases he hv with e0 | e0
      · obtain ⟨q1, q2⟩ := hlv e0 hv k.toNat (by omega)
        rw [if_pos e0, e0]
        generalize levF ps k.toNat = lk at *
        generalize lvOf ps = ls at *
        repeat (first | ((with_reducible refine AWp.ofC ?_ ?_); (focus exact rfl); simp only [go_sem, q2]) | ((with_reducible refine an ?_ ?_); focus exact Au))
        refine ret_eq ?_; simp only [go_sem]
      · rw [if_neg (by omega), e0]
        repeat (first | ((with_reducible refine AWp.ofC ?_ ?_); (focus exact rfl); simp only [go_sem, Int.reduceEq]) | ((with_reducible refine an ?_ ?_); focus exact Au))
        refine ret_view [] ?_; simp only [go_sem]
        exact .mkTup (Vws.cons (.nil 1) (Vws.refl _))
end Go.AL
end
section
/- The reference's Level, Widest; equal rows; few. No condition. -/
namespace Go.AL
open Go Go.RowKit
set_option maxRecDepth 4000
theorem lvlF_succ {l : List (List Int)} {k : Int} {i : Nat} (hi : i < l.length) : lvlF (l.take (i + 1)) k = lvlF (l.take i) k ++ if l[i].sum = k then [l[i]] else [] := by
  unfold lvlF
  rw [List.take_succ_eq_append_getElem hi, List.filter_append]
  congr 1
  by_cases h : l[i].sum = k
  · simp [h]
  · simp [h]
theorem ref23_Level (l : List (List Int)) (hl : l.length ≤ 1000000) (hc : ∀ c ∈ l, Cb c) (k : Int) : PC Go.Proofs.Tryz.prog 17 [aRows l, ai k] (aRows (lvlF l k)) := by
  have hR : ∀ x : List (List Int), aRows x = .sl 1 (x.map aInts) := fun _ => rfl
  rw [hR, hR]
  refine PC.enter 28 [.tmp 4] [25] Go.Proofs.Tryz.func17 rfl rfl rfl rfl rfl (by simp) (AWp.of ?_); simp only [go_sem]
  repeat (first | ((with_reducible refine AWp.ofC ?_ ?_); (focus exact rfl); simp only [go_sem]) | ((with_reducible refine an ?_ ?_); focus exact Au))
  refine AWp.block (AWp.loopN [5, 6] [0, 1] (fun m vs L => ∃ (i : Nat) (v : AV), vs = [v, ai i] ∧ i ≤ l.length ∧ m = l.length - i ∧ AppSt 43 1 ((lvlF (l.take i) k).map aInts) v L) l.length ⟨0, anil, rfl, by omega, rfl, .nil⟩ ?_)
  rintro m vs L - ⟨i, v, rfl, hi, rfl, hA⟩
  have hyl : ((lvlF (l.take i) k).map aInts).length ≤ 1000000 := by
    rw [List.length_map]
    have := List.length_filter_le (fun c => decide (c.sum = k)) (l.take i)
    rw [List.length_take] at this
    unfold lvlF; omega
  by_cases hil : i < l.length
  · have hii : (i : Int) < (l.length : Int) := by omega
    have hsz := ref23_Size l[i] (hc _ (List.getElem_mem hil))
    have hg := getD_map (f := aInts) hil
    have hst := congrArg (List.map aInts) (lvlF_succ (k := k) hil)
    rw [List.map_append] at hst
    generalize (lvlF (l.take i) k).map aInts = ys at *
    generalize l[i] = c at *
    rcases hA.inv with ⟨e1, rfl, rfl⟩ | ⟨b, cap, rfl, rfl⟩
    · simp only [go_sem]
      repeat (first | ((with_reducible refine AWp.ofC ?_ ?_); (focus exact rfl); simp only [go_sem, hii, hg]) | ((with_reducible refine an ?_ ?_); focus exact Au))
      repeat ((with_reducible refine an ?_ ?_); focus exact As)
      refine (hsz).val.use ?_; simp only [go_sem]
      repeat (first | ((with_reducible refine AWp.ofC ?_ ?_); (focus exact rfl); simp only [go_sem, hg]) | ((with_reducible refine an ?_ ?_); focus exact Au))
      refine ⟨fun h => ?_, fun h => ?_⟩
      · rw [if_pos h, e1] at hst
        repeat (first | ((with_reducible refine AWp.ofC ?_ ?_); (focus exact rfl); simp only [go_sem]) | ((with_reducible refine an ?_ ?_); focus exact Au))
        intro b' cap' hc'
        repeat (first | ((with_reducible refine AWp.ofC ?_ ?_); (focus exact rfl); simp only [go_sem]) | ((with_reducible refine an ?_ ?_); focus exact Au))
        exact ⟨_, List.Sublist.refl _, _, by omega, i + 1, _, by simp; rfl, by omega, rfl, by rw [hst]; exact .row b' [aInts c] cap'⟩
      · rw [if_neg h, e1] at hst
        repeat (first | ((with_reducible refine AWp.ofC ?_ ?_); (focus exact rfl); simp only [go_sem]) | ((with_reducible refine an ?_ ?_); focus exact Au))
        exact ⟨_, List.Sublist.refl _, _, by omega, i + 1, _, by simp; rfl, by omega, rfl, by rw [hst]; exact .nil⟩
    · simp only [go_sem]
      repeat (first | ((with_reducible refine AWp.ofC ?_ ?_); (focus exact rfl); simp only [go_sem, hii, hg]) | ((with_reducible refine an ?_ ?_); focus exact Au))
      repeat ((with_reducible refine an ?_ ?_); focus exact As)
      refine (hsz).val.use ?_; simp only [go_sem]
      repeat (first | ((with_reducible refine AWp.ofC ?_ ?_); (focus exact rfl); simp only [go_sem, hg]) | ((with_reducible refine an ?_ ?_); focus exact Au))
      refine ⟨fun h => ?_, fun h => ?_⟩
      · rw [if_pos h] at hst
        repeat (first | ((with_reducible refine AWp.ofC ?_ ?_); (focus exact rfl); simp only [go_sem]) | ((with_reducible refine an ?_ ?_); focus exact Au))
        intro b' cap' hc'
        repeat (first | ((with_reducible refine AWp.ofC ?_ ?_); (focus exact rfl); simp only [go_sem]) | ((with_reducible refine an ?_ ?_); focus exact Au))
        exact ⟨_, List.Sublist.refl _, _, by omega, i + 1, _, by simp; rfl, by omega, rfl, by rw [hst]; exact AppSt.snoc b' cap' _ rfl⟩
      · rw [if_neg h] at hst
        repeat (first | ((with_reducible refine AWp.ofC ?_ ?_); (focus exact rfl); simp only [go_sem]) | ((with_reducible refine an ?_ ?_); focus exact Au))
        refine ⟨_, List.Sublist.refl _, _, by omega, i + 1, _, by simp; rfl, by omega, rfl, ?_⟩
        rw [hst]; simpa using AppSt.row b ys cap
  · have hii : ¬ (i : Int) < (l.length : Int) := by omega
    have : l.take i = l := List.take_of_length_le (by omega)
    rw [this] at hA
    generalize (lvlF l k).map aInts = ys at *
    rcases hA.inv with ⟨e1, rfl, rfl⟩ | ⟨b, cap, rfl, rfl⟩
    · simp only [go_sem]
      repeat (first | ((with_reducible refine AWp.ofC ?_ ?_); (focus exact rfl); simp only [go_sem, hii]) | ((with_reducible refine an ?_ ?_); focus exact Au))
      refine ret_view [] ?_; simp only [go_sem]
      rw [e1]; exact .nil 1
    · simp only [go_sem]
      repeat (first | ((with_reducible refine AWp.ofC ?_ ?_); (focus exact rfl); simp only [go_sem, hii]) | ((with_reducible refine an ?_ ?_); focus exact Au))
      refine ret_view [true] ?_; simp only [go_sem]
      exact Vw.ofLs (if_pos rfl) rfl
theorem ref23_Widest (ps : List Pr) (hs : Sm ps) (hv : validF ps = true) (l : List (List Int)) (hl : l.length ≤ 1000000) (hc : ∀ c ∈ l, Cb c) :
    PC Go.Proofs.Tryz.prog 18 [aTr ps, aRows l] (.tup [ai (widF (fun k => (lvlF l (k : Nat)).length) (off ps ps.length + 1)).1, ai (widF (fun k => (lvlF l (k : Nat)).length) (off ps ps.length + 1)).2]) := by
  have h1 := ref12_Count ps hs hv
  have h2 := fun k => ref23_Level l hl hc k
  have h8 := (valid_len hv).2
  have hof := off_small hs ps.length (Nat.le_refl _)
  have hR : ∀ x : List (List Int), aRows x = .sl 1 (x.map aInts) := fun _ => rfl
  refine PC.enter 27 [.tmp 4, .tmp 5] [2] Go.Proofs.Tryz.func18 rfl rfl rfl rfl rfl (by simp) (AWp.of ?_); simp only [go_sem]
  repeat (first | ((with_reducible refine AWp.ofC ?_ ?_); (focus exact rfl); simp only [go_sem]) | ((with_reducible refine an ?_ ?_); focus exact Au))
  refine AWp.block (AWp.loopN [6, 7, 8] [1, 2] (fun m vs L => L = [] ∧ ∃ k : Nat, vs = [ai (widF (fun k => (lvlF l (k : Nat)).length) k).1, ai (widF (fun k => (lvlF l (k : Nat)).length) k).2, ai k] ∧ k ≤ off ps ps.length + 1 ∧ m = off ps ps.length + 1 - k) (off ps ps.length + 1) ⟨rfl, 0, rfl, by omega, rfl⟩ ?_)
  rintro m vs L - ⟨rfl, k, rfl, hk, rfl⟩
  have hst : widF (fun k => (lvlF l (k : Nat)).length) (k + 1) = if (widF (fun k => (lvlF l (k : Nat)).length) k).2 < (lvlF l (k : Nat)).length then (k, (lvlF l (k : Nat)).length) else widF (fun k => (lvlF l (k : Nat)).length) k := rfl
  have h2 := h2 k
  rw [hR] at *
  simp only [go_sem]
  repeat (first | ((with_reducible refine AWp.ofC ?_ ?_); (focus exact rfl); simp only [go_sem]) | ((with_reducible refine an ?_ ?_); focus exact Au))
  repeat ((with_reducible refine an ?_ ?_); focus exact As)
  refine (h1).val.use ?_; simp only [go_sem]
  repeat (first | ((with_reducible refine AWp.ofC ?_ ?_); (focus exact rfl); simp only [go_sem]) | ((with_reducible refine an ?_ ?_); focus exact Au))
  refine ⟨fun h => ?_, fun h => ?_⟩
  · repeat (first | ((with_reducible refine AWp.ofC ?_ ?_); (focus exact rfl); simp only [go_sem]) | ((with_reducible refine an ?_ ?_); focus exact Au))
    repeat ((with_reducible refine an ?_ ?_); focus exact As)
    refine (h2).val.use ?_; simp only [go_sem]
    generalize hw : widF (fun k => (lvlF l (k : Nat)).length) k = w at *
    generalize lvlF l (k : Nat) = lv at *
    repeat (first | ((with_reducible refine AWp.ofC ?_ ?_); (focus exact rfl); simp only [go_sem]) | ((with_reducible refine an ?_ ?_); focus exact Au))
    refine ⟨fun h3 => ?_, fun h3 => ?_⟩
    · rw [if_pos (by omega)] at hst
      repeat (first | ((with_reducible refine AWp.ofC ?_ ?_); (focus exact rfl); simp only [go_sem]) | ((with_reducible refine an ?_ ?_); focus exact Au))
      exact ⟨_, List.Sublist.refl _, _, by omega, rfl, k + 1, by rw [hst]; simp, by omega, rfl⟩
    · rw [if_neg (by omega)] at hst
      repeat (first | ((with_reducible refine AWp.ofC ?_ ?_); (focus exact rfl); simp only [go_sem]) | ((with_reducible refine an ?_ ?_); focus exact Au))
      exact ⟨_, List.Sublist.refl _, _, by omega, rfl, k + 1, by rw [hst]; simp, by omega, rfl⟩
  · have : k = off ps ps.length + 1 := by omega
    rw [← this]
    repeat (first | ((with_reducible refine AWp.ofC ?_ ?_); (focus exact rfl); simp only [go_sem]) | ((with_reducible refine an ?_ ?_); focus exact Au))
    refine ret_eq ?_; simp only [go_sem]
theorem cuts_Widest (ps : List Pr) (hs : Sm ps) : PC Go.Proofs.Tryz.prog 13 [aTr ps] (.tup [ai (widF (fun k => ((lvOf ps).getD k []).length) (lvOf ps).length).1, ai (widF (fun k => ((lvOf ps).getD k []).length) (lvOf ps).length).2, ai (lstE ps)]) := by
  have h3 := cuts_levels' ps hs
  have hR : ∀ x : List (List Int), aRows x = .sl 1 (x.map aInts) := fun _ => rfl
  have hl := lv_len hs
  generalize lvOf ps = ls at *
  generalize lstE ps = e at *
  refine PC.enter 31 [.tmp 2, .tmp 3, .tmp 4] [1] Go.Proofs.Tryz.func13 rfl rfl rfl rfl rfl (by simp) (AWp.of ?_); simp only [go_sem]
  repeat (first | ((with_reducible refine AWp.ofC ?_ ?_); (focus exact rfl); simp only [go_sem]) | ((with_reducible refine an ?_ ?_); focus exact Au))
  repeat ((with_reducible refine an ?_ ?_); focus exact As)
  refine (h3).val.use ?_; simp only [go_sem]
  repeat (first | ((with_reducible refine AWp.ofC ?_ ?_); (focus exact rfl); simp only [go_sem]) | ((with_reducible refine an ?_ ?_); focus exact Au))
  refine AWp.range' ls.length [2, 3] [4, 13, 14] (fun k vs L => L = [] ∧ vs = [ai (widF (fun k => (ls.getD k []).length) k).1, ai (widF (fun k => (ls.getD k []).length) k).2]) (by omega) rfl rfl rfl ⟨rfl, rfl⟩ ?_ ?_
  · rintro k vs L hk - ⟨rfl, rfl⟩
    have hst : widF (fun k => (ls.getD k []).length) (k + 1) = if (widF (fun k => (ls.getD k []).length) k).2 < (ls.getD k []).length then (k, (ls.getD k []).length) else widF (fun k => (ls.getD k []).length) k := rfl
    have hg := getD_map (f := aRows) hk
    have hg2 : ls.getD k [] = ls[k] := by simp [List.getD_eq_getElem?_getD, hk]
    rw [hg2] at hst
    generalize widF (fun k => (ls.getD k []).length) (k + 1) = w1 at *
    generalize widF (fun k => (ls.getD k []).length) k = w at *
    generalize ls[k] = lk at *
    simp only [go_sem]
    repeat (first | ((with_reducible refine AWp.ofC ?_ ?_); (focus exact rfl); simp only [go_sem, hg]) | ((with_reducible refine an ?_ ?_); focus exact Au))
    refine ⟨fun h3 => ?_, fun h3 => ?_⟩
    · rw [if_pos (by omega)] at hst
      repeat (first | ((with_reducible refine AWp.ofC ?_ ?_); (focus exact rfl); simp only [go_sem]) | ((with_reducible refine an ?_ ?_); focus exact Au))
      exact ⟨_, List.Sublist.refl _, rfl, by rw [hst]⟩
    · rw [if_neg (by omega)] at hst
      repeat (first | ((with_reducible refine AWp.ofC ?_ ?_); (focus exact rfl); simp only [go_sem]) | ((with_reducible refine an ?_ ?_); focus exact Au))
      exact ⟨_, List.Sublist.refl _, rfl, by rw [hst]⟩
  · rintro vs L - ⟨rfl, rfl⟩
    simp only [go_sem]
    repeat (first | ((with_reducible refine AWp.ofC ?_ ?_); (focus exact rfl); simp only [go_sem]) | ((with_reducible refine an ?_ ?_); focus exact Au))
    refine ret_eq ?_; simp only [go_sem]
theorem wid_eq {ps : List Pr} (h : lstE ps = 0) : widF (fun k => ((lvOf ps).getD k []).length) (lvOf ps).length = widF (fun k => (lvlF (cutsF ps) (k : Nat)).length) (off ps ps.length + 1) := by
  have hv := (lst_zero.1 h).1
  have hl : (lvOf ps).length = off ps ps.length + 1 := by unfold lvOf; rw [if_pos h, List.length_map, List.length_range, nlev_off hv]
  rw [hl]
  refine widF_congr fun k hk => ?_
  rw [lvl_cuts hv (by omega)]
  unfold lvOf
  simp only [h, if_true]
  rw [List.getD_eq_getElem?_getD, List.getElem?_map, List.getElem?_range (by rw [nlev_off hv]; exact hk)]
  rfl
theorem ref15_SameRows (a b : List (List Int)) (ha : a.length ≤ 1000000) (hx : ∀ x ∈ a, x.length ≤ 1000000) : PC Go.Proofs.Tryz.prog 16 [aRows a, aRows b] (ab (decide (a = b))) := by
  have hR : ∀ x : List (List Int), aRows x = .sl 1 (x.map aInts) := fun _ => rfl
  rw [hR, hR]
  by_cases hl : a.length = b.length
  · have hli : (a.length : Int) = b.length := by omega
    refine PC.enter 27 [.tmp 4] [] Go.Proofs.Tryz.func16 rfl rfl rfl rfl rfl (by simp) (AWp.of ?_); simp only [go_sem]
    repeat (first | ((with_reducible refine AWp.ofC ?_ ?_); (focus exact rfl); simp only [go_sem, hli]) | ((with_reducible refine an ?_ ?_); focus exact Au))
    refine AWp.block (AWp.count 5 a.length [] [0, 1] (fun k vs L => L = [] ∧ ∀ j (h1 : j < a.length) (h2 : j < b.length), j < k → a[j] = b[j]) rfl rfl ⟨rfl, fun j _ _ h => by omega⟩ ?_)
    rintro k vs L hk - ⟨rfl, hI⟩
    simp only [go_sem]
    repeat (first | ((with_reducible refine AWp.ofC ?_ ?_); (focus exact rfl); simp only [go_sem, hli]) | ((with_reducible refine an ?_ ?_); focus exact Au))
    refine ⟨fun h3 => ?_, fun h3 => ?_⟩
    · have hka : k < a.length := by omega
      have hkb : k < b.length := by omega
      have ga := getD_map (f := aInts) hka
      have gb := getD_map (f := aInts) hkb
      have hsl := ref15_SameList a[k] b[k] (hx _ (List.getElem_mem hka))
      refine AWp.seq (AWp.block (AWp.seq ?_))
      refine AWp.read mixed [0, 1, 2, 3, 4, 5, 6, 7, 8, 9] (by kernel_rfl) ?_; simp only [go_sem, ga, gb]
      repeat ((with_reducible refine an ?_ ?_); focus exact As)
      refine GCall.use (ab (decide (a[k] = b[k]))) (fun _ => ⟨At, hsl.val.use ⟨rfl, rfl⟩⟩) ?_
      simp only [go_sem]
      repeat ((with_reducible refine an ?_ ?_); focus exact As)
      repeat (first | ((with_reducible refine AWp.ofC ?_ ?_); (focus exact rfl); simp only [go_sem]) | ((with_reducible refine an ?_ ?_); focus exact Au))
      refine ⟨fun h4 => ?_, fun h4 => ?_⟩
      · repeat (first | ((with_reducible refine AWp.ofC ?_ ?_); (focus exact rfl); simp only [go_sem]) | ((with_reducible refine an ?_ ?_); focus exact Au))
        refine ret_eq ?_; simp only [go_sem]
        rw [decide_eq_false]
        rintro rfl
        exact h4 rfl
      · repeat (first | ((with_reducible refine AWp.ofC ?_ ?_); (focus exact rfl); simp only [go_sem]) | ((with_reducible refine an ?_ ?_); focus exact Au))
        refine ⟨_, List.Sublist.refl _, rfl, fun j j1 j2 hj => ?_⟩
        by_cases e : j = k
        · subst e; exact h4
        · exact hI j j1 j2 (by omega)
    · repeat (first | ((with_reducible refine AWp.ofC ?_ ?_); (focus exact rfl); simp only [go_sem]) | ((with_reducible refine an ?_ ?_); focus exact Au))
      refine ret_eq ?_; simp only [go_sem]
      rw [decide_eq_true]
      exact List.ext_getElem hl fun j j1 j2 => hI j j1 j2 (by omega)
  · have hli : ¬ (a.length : Int) = b.length := by omega
    rw [decide_eq_false fun h => hl (by rw [h])]
    refine PC.enter 27 [.tmp 4] [] Go.Proofs.Tryz.func16 rfl rfl rfl rfl rfl (by simp) (AWp.of ?_); simp only [go_sem]
    repeat (first | ((with_reducible refine AWp.ofC ?_ ?_); (focus exact rfl); simp only [go_sem, hli]) | ((with_reducible refine an ?_ ?_); focus exact Au))
    refine ret_eq ?_; simp only [go_sem]
end Go.AL
end
section
/- The layer AL: a statement whose sums may wrap. No condition. -/
namespace Go.AL
open Go Go.RowKit
def addW (a b : Int) : Int := IntKind.i64.wrap (a + b)
def aAddW (_C : Cfg) (o : Oper) (x y : AV) (ρ : Env) (L : AHeap) (K : ARes) : Prop :=
  match x, y with
  | .v (.int .i64 a), .v (.int .i64 b) => K (put ρ o.dst (ai (addW a b))) L
  | _, _ => False
def aopW (C : Cfg) (o : Oper) (ρ : Env) (L : AHeap) (K : ARes) : Prop :=
  match o.op with
  | .binOp .add _ x y _ => aAddW C o (ev ρ x) (ev ρ y) ρ L K
  | _ => aop C o ρ L K
theorem aopW_sound {C : Cfg} {o : Oper} {ρ : Env} {L : AHeap} {K : ARes} (hd : dstOk C o) (hdef : ∀ c, o.op ≠ .defer c) (h : aopW C o ρ L K) : AOp C o ρ L K := by
  unfold aopW at h
  split at h
  · rename_i t x y t' hop
    unfold aAddW at h
    split at h
    · rename_i a b hx hy
      refine AOp.val hd hdef (fun ac w A hρ hL => ⟨.int .i64 (addW a b), ?_, .v _⟩) h
      have h1 := hρ x; rw [hx] at h1; have h1 := h1.inv_v
      have h2 := hρ y; rw [hy] at h2; have h2 := h2.inv_v
      unfold execOp
      rw [hop]
      simp [h1, h2, binOp, eqGuard, Op.intArith, addW]
    · exact h.elim
  · exact aop_sound hd hdef h
def aregionW (C : Cfg) : List Oper → Env → AHeap → ARes → Prop
  | [], ρ, L, K => K ρ L
  | o :: rest, ρ, L, K => o.guard = none ∧ aopW C o ρ L fun ρ L => aregionW C rest ρ L K
def aregWK (C : Cfg) (rest : List Oper) (K : ARes) (ρ : Env) (L : AHeap) : Prop := aregionW C rest ρ L K
theorem aregionW_nil (C : Cfg) (ρ : Env) (L : AHeap) (K : ARes) : aregionW C [] ρ L K = K ρ L := rfl
theorem aregionW_cons (C : Cfg) (rest : List Oper) (o : Oper) (ρ : Env) (L : AHeap) (K : ARes) : aregionW C (o :: rest) ρ L K = (o.guard = none ∧ aopW C o ρ L (aregWK C rest K)) := rfl
theorem aregionW_sound {C : Cfg} {ops : Array Oper} {K : ARes} {n : Nat} {w0 : World} {M A0 : Foot} {Q : Exit → Act → World → Prop} (hQ : ∀ a w, post w0 M A0 C.N K a w → Q .normal a w) (hok : ops.toList.all (operOk C.N) = true) :
    ∀ (l : List Oper) (k : Nat), (∀ j, l[j]? = ops[k + j]?) → ∀ (ρ : Env) (L : AHeap) (a : Act) (w : World), aregionW C l ρ L K → St w0 M A0 C.N ρ L a w → wpOpsIn (Fw C.r) n C.P ops Q (List.range' k l.length) a w
  | [], k, _, ρ, L, a, w, h, hs => hQ a w ⟨ρ, L, h, hs⟩
  | o :: l, k, hl, ρ, L, a, w, h, hs => by
    have h0 : ops[k]? = some o := by simpa using (hl 0).symm
    have ho : operOk C.N o = true := List.all_eq_true.1 hok o (List.mem_of_getElem? (by simpa using h0))
    rw [List.length_cons, List.range'_succ, wpOpsIn_cons]
    refine wpOpIn_mono ?_ (AOp.gop h0 h.1 (aopW_sound (operOk_dst ho) (operOk_def ho) h.2) n w0 M A0 a w Q hs)
    rintro a' w' ⟨ρ', L', h1, h2⟩
    exact aregionW_sound hQ hok l (k + 1) (fun j => by have := hl (j + 1); simpa [Nat.add_assoc, Nat.add_comm 1 j] using this) ρ' L' a' w' h1 h2
theorem AWp.regionW {C : Cfg} {id : Nat} {ops : Array Oper} {Q : AQ} {ρ : Env} {L : AHeap} (h : aregionW C ops.toList ρ L (Q .normal)) : AWp C (.region id ops false) Q ρ L := fun hok n w0 M A0 a w hs => by
  refine wpIn_region ?_
  have := aregionW_sound (C := C) (ops := ops) (K := Q .normal) (n := n) (Q := cq C w0 M A0 Q) (fun a w ⟨ρ', L', h1, h2⟩ => ⟨ρ', L', h1, h2⟩) hok ops.toList 0 (by simp) ρ L a w h hs
  rwa [Array.length_toList, ← List.range_eq_range'] at this
attribute [go_sem] aregionW_nil aregionW_cons aregWK aopW aAddW
end Go.AL
end
section
/- The layer AL: ranges over slices of any length. No condition. -/
namespace Go.AL
open Go Go.RowKit
theorem AWp.range1 {C : Cfg} {id i1 i2 t s n t2 : Nat} {ty1 ty2 ty3 ty4 r1 r2 r3 : TypeId} {p1 p2 p3 : String} {a1 a2 a3 : Array Edge} {body : Code} {Q : AQ} {ρ : Env} {L : AHeap}
    (m : Nat) (ls ks : List Nat) (I : Nat → List AV → AHeap → Prop) (hm : m ≤ 9223372036854775807) (hs : get ρ s = ai 0) (hn : get ρ n = ai m) (hnk : n ∈ ks) (hsk : s ∉ ks) (hsl : s ∉ ls) (hts : t ≠ s) (htk : t ∉ ks) (h2k : t2 ∉ ks) (htl : t ∉ ls) (h2l : t2 ∉ ls)
    (h0 : I 0 (ls.map (get ρ)) L)
    (round : ∀ k vs L', k < m → vs.length = ls.length → I k vs L' → AWp C body (rangeQ id s k ls ks ρ (I (k + 1)) Q) ((s, ai k) :: lenv ls ks vs ρ) L')
    (done : ∀ vs L', vs.length = ls.length → I m vs L' → Q .normal ((s, ai m) :: lenv ls ks vs ρ) L') :
    AWp C (.block id (.loop (.seq (.region i1 #[⟨some t, .binOp .lss ty1 (.tmp s) (.tmp n) ty2, r1, p1, a1, none⟩] false) (.seq (.cond (.tmp t) .skip (.exit id)) (.seq body
      (.region i2 #[⟨some t2, .binOp .add ty3 (.tmp s) (.const (.int .i64 1)) ty4, r2, p2, a2, none⟩, ⟨some s, .move (.tmp t2), r3, p3, a3, none⟩] false)))))) Q ρ L := by
  have hnl : ∀ vs : List AV, vs.length = ls.length → get (lenv ls ks vs ρ) n = ai m := fun vs _ => by
    unfold lenv
    have hin : n ∈ (keep ks ρ).map (·.1) := by simp [keep, hnk]
    rw [get_append, if_pos hin]
    rcases get_keep ks ρ n with e | e
    · have : ∀ l : List Nat, n ∈ l → get (keep l ρ) n = get ρ n := fun l => by
        induction l with
        | nil => intro h; cases h
        | cons x r ih =>
          intro h
          simp only [keep, List.map_cons, get]
          split
          · rename_i e; rw [e]
          · rename_i e; exact ih ((List.mem_cons.1 h).resolve_left e)
      rw [this ks hnk, hn]
    · rw [e, hn]
  have hns : n ≠ s := fun e => hsk (e ▸ hnk)
  have dropT : ∀ (k : Nat) (vs : List AV) (x : AV) (i : Nat), get ((s, ai k) :: lenv ls ks vs ρ) i = .any ∨ get ((s, ai k) :: lenv ls ks vs ρ) i = get ((t, x) :: (s, ai k) :: lenv ls ks vs ρ) i := fun k vs x i => by
    by_cases hi : i = t
    · subst hi
      refine .inl ?_
      simp only [get, if_neg hts, lenv]
      rw [get_append, if_neg (by simp [keep, htk])]
      have : ∀ (l : List Nat) (v : List AV), i ∉ l → get (l.zip v) i = .any := fun l => by
        induction l with
        | nil => intro v _; rfl
        | cons x r ih =>
          intro v h
          cases v with
          | nil => rfl
          | cons y v =>
            simp only [List.zip_cons_cons, get]
            rw [if_neg (by rintro rfl; exact h List.mem_cons_self)]
            exact ih v (fun hh => h (List.mem_cons_of_mem _ hh))
      exact this ls vs htl
    · exact .inr (by simp [get, hi])
  refine AWp.block (AWp.loop (s :: ls) ks (fun vs' L' => ∃ (k : Nat) (vs : List AV), vs' = ai (k : Int) :: vs ∧ k ≤ m ∧ I k vs L') (fun vs' _ => match vs' with | .v (.int _ k) :: _ => m - k.toNat | _ => 0)
    ⟨0, _, by simp [hs], Nat.zero_le _, h0⟩ ?_)
  rintro vs' L' hl ⟨k, vs, rfl, hk, hI⟩
  have hvl : vs.length = ls.length := by simpa using hl
  -- the counter first
  refine AWp.st (ρ' := (s, ai k) :: lenv ls ks vs ρ) (L' := L') (fun w0 M A0 a w h => st_forget h fun i => ?_) ?_
  · by_cases hi : i = s
    · subst hi
      refine .inr ?_
      simp only [get, if_true, lenv]
      rw [get_append, if_neg (by simp [keep, hsk])]
      simp [get]
    · refine .inr ?_
      simp only [get, if_neg hi, lenv, List.zip_cons_cons]
      rw [get_append, get_append]
      split
      · rfl
      · simp [get, hi]
  have hget_s : get ((s, ai k) :: lenv ls ks vs ρ) s = ai k := by simp [get]
  have hget_n : get ((s, ai k) :: lenv ls ks vs ρ) n = ai m := by simp only [get, if_neg hns]; exact hnl vs hvl
  refine AWp.seq (AWp.region ?_)
  simp only [aregion, astep, aop, aval, ev, hget_s, hget_n, w2, fo, aEq, aBin, thenQ, put]
  refine ⟨by simp, ?_⟩
  refine AWp.seq (AWp.cond (t := decide ((k : Int) < m)) (by simp [ev, get]) (fun ht => ?_) (fun hf => ?_))
  · have hlt : k < m := by simpa using ht
    refine AWp.of ?_
    simp only [awp1, thenQ]
    refine AWp.st (ρ' := (s, ai k) :: lenv ls ks vs ρ) (L' := L') (fun w0 M A0 a w h => st_forget h (dropT k vs _)) ?_
    refine AWp.seq ((round k vs L' hlt hvl hI).mono ?_)
    intro e ρ' L'' hq
    cases e with
    | normal =>
      obtain ⟨g1, g2, L3, g3, g4⟩ := hq
      simp only [thenQ]
      refine AWp.region ?_
      have hi64 : I64 ((k : Int) + 1) := by unfold I64; omega
      simp only [aregion, astep, aop, aval, ev, g1, w2, fo, aEq, aBin, put, if_true, get]
      refine ⟨⟨⟨trivial, trivial⟩, trivial, hi64⟩, trivial, ?_⟩
      simp only [roundQ]
      have hks : ks.map (get ((s, ai ((k : Int) + 1)) :: (t2, ai ((k : Int) + 1)) :: ρ')) = ks.map (get ρ') := List.map_congr_left fun j hj => by
        simp only [get]; rw [if_neg (by rintro rfl; exact hsk hj), if_neg (by rintro rfl; exact h2k hj)]
      have hls : ls.map (get ((s, ai ((k : Int) + 1)) :: (t2, ai ((k : Int) + 1)) :: ρ')) = ls.map (get ρ') := List.map_congr_left fun j hj => by
        simp only [get]; rw [if_neg (by rintro rfl; exact hsl hj), if_neg (by rintro rfl; exact h2l hj)]
      refine ⟨by rw [hks]; exact g2, L3, g3, ⟨k + 1, _, ?_, hlt, g4⟩, ?_⟩
      · rw [List.map_cons, hls]
        simp only [get, if_true]
        rfl
      · simp only [List.map_cons, get, if_true]
        have : ((k : Int) + 1).toNat = k + 1 := by omega
        simp only [this, Int.toNat_natCast]
        omega
    | exit id' => simpa [thenQ, roundQ, blockQ, rangeQ] using hq
    | goto l => exact hq
    | ret => exact hq
    | panic c => exact hq
    | outgrown => exact hq
  · have hkm : k = m := by have : ¬ ((k : Int) < m) := by simpa using hf
                           omega
    subst hkm
    refine AWp.st (ρ' := (s, ai k) :: lenv ls ks vs ρ) (L' := L') (fun w0 M A0 a w h => st_forget h (dropT k vs _)) (AWp.of ?_)
    simp only [awp1, thenQ, roundQ, blockQ, if_true]
    exact done vs L' hvl hI
theorem AWp.range1' {C : Cfg} {id i1 i2 t s n t2 : Nat} {ty1 ty2 ty3 ty4 r1 r2 r3 : TypeId} {p1 p2 p3 : String} {a1 a2 a3 : Array Edge} {body : Code} {Q : AQ} {ρ : Env} {L : AHeap}
    (m : Nat) (ls ks : List Nat) (I : Nat → List AV → AHeap → Prop) (hm : m ≤ 9223372036854775807) (hs : get ρ s = ai 0) (hn : get ρ n = ai m) (hok : rOk s n t t2 ls ks = true)
    (h0 : I 0 (ls.map (get ρ)) L)
    (round : ∀ k vs L', k < m → vs.length = ls.length → I k vs L' → AWp C body (rangeQ id s k ls ks ρ (I (k + 1)) Q) ((s, ai k) :: lenv ls ks vs ρ) L')
    (done : ∀ vs L', vs.length = ls.length → I m vs L' → Q .normal ((s, ai m) :: lenv ls ks vs ρ) L') :
    AWp C (.block id (.loop (.seq (.region i1 #[⟨some t, .binOp .lss ty1 (.tmp s) (.tmp n) ty2, r1, p1, a1, none⟩] false) (.seq (.cond (.tmp t) .skip (.exit id)) (.seq body
      (.region i2 #[⟨some t2, .binOp .add ty3 (.tmp s) (.const (.int .i64 1)) ty4, r2, p2, a2, none⟩, ⟨some s, .move (.tmp t2), r3, p3, a3, none⟩] false)))))) Q ρ L := by
  simp only [rOk, Bool.and_eq_true, Bool.not_eq_true', List.contains_eq_mem, decide_eq_false_iff_not, decide_eq_true_eq, bne_iff_ne, ne_eq] at hok
  obtain ⟨⟨⟨⟨⟨⟨⟨h1, h2⟩, h3⟩, h4⟩, h5⟩, h6⟩, h7⟩, h8⟩ := hok
  exact AWp.range1 m ls ks I hm hs hn h1 h2 h3 h4 h5 h6 h7 h8 h0 round done
end Go.AL
end
section
/- The layer AL: a statement whose guarded operations are known to be wanted or not: a guarded call may turn the memory. No condition. -/
namespace Go.AL
open Go Go.RowKit

def astepF (C : Cfg) (all : List Oper) (o : Oper) (ρ : Env) (L : AHeap) (K : ARes) : Prop :=
  match o.guard with
  | none => aop C o ρ L K
  | some (j, want) => match gval all ρ j want with
    | some b => (b = want → aop C o ρ L K) ∧ (b ≠ want → K (put ρ o.dst .any) L)
    | none => False
def aregionF (C : Cfg) (all : List Oper) : List Oper → Env → AHeap → ARes → Prop
  | [], ρ, L, K => K ρ L
  | o :: rest, ρ, L, K => astepF C all o ρ L fun ρ L => aregionF C all rest ρ L K
def aregFK (C : Cfg) (all rest : List Oper) (K : ARes) (ρ : Env) (L : AHeap) : Prop := aregionF C all rest ρ L K
theorem aregionF_nil (C : Cfg) (all : List Oper) (ρ : Env) (L : AHeap) (K : ARes) : aregionF C all [] ρ L K = K ρ L := rfl
theorem aregionF_cons (C : Cfg) (all rest : List Oper) (o : Oper) (ρ : Env) (L : AHeap) (K : ARes) : aregionF C all (o :: rest) ρ L K = astepF C all o ρ L (aregFK C all rest K) := rfl
attribute [go_sem] aregionF_nil aregionF_cons astepF aregFK
end Go.AL
end
section
/- The law of layer 23: the example, small traces, what is listed; CutsLists. No condition. -/
namespace Go.AL
open Go Go.RowKit
set_option maxRecDepth 4000
def psP : List Pr := [⟨⟨#[97]⟩, [], [⟨2, 1, 0, 0, []⟩]⟩, ⟨⟨#[98]⟩, [], [⟨3, 0, 0, 0, []⟩]⟩]
theorem psP_valid : validF psP = true := by
  unfold validF faultF
  rw [if_neg (by decide), show procFirst psP = none from rfl, show evFirst psP = none from rfl, show msgF psP = none from rfl, cycF_rank (fun x => x.1) (by decide)]
  rfl
theorem psP_sm : Sm psP := ⟨by decide, by decide, by decide, by decide⟩
theorem psP_cuts : cutsF psP = [[0, 0], [1, 0], [1, 1]] := by rfl
theorem psP_zero : lstE psP = 0 := lst_zero.2 ⟨psP_valid, by rw [psP_cuts]; decide⟩
theorem law23_pair : PC Go.Proofs.Tryz.prog 51 [] (aTr psP) := by
  refine PC.enter 9 [.cell 0 24] [0, 2, 5, 7] Go.Proofs.Tryz.func51 rfl rfl rfl rfl rfl (by simp) (AWp.of ?_); simp only [go_sem]
  repeat (first | ((with_reducible refine AWp.ofC ?_ ?_); (focus exact rfl); simp only [go_sem]) | ((with_reducible refine an ?_ ?_); focus exact Au))
  intro b0
  repeat (first | ((with_reducible refine AWp.ofC ?_ ?_); (focus exact rfl); simp only [go_sem]) | ((with_reducible refine an ?_ ?_); focus exact Au))
  refine ret_view [] ?_; simp only [go_sem]
  repeat (first | exact Vw.refl _ | exact Vws.nil | exact Vw.nil _ | refine Vws.cons ?_ ?_ | refine Vw.mkAgg ?_ | refine Vw.mkSl ?_)
theorem law23_awake : PC Go.Proofs.Tryz.prog 8 [] (ab true) := by
  have h1 := cuts_List psP psP_sm
  have h2 := cuts_Widest psP psP_sm
  have e1 : aLst psP = .tup [aRows [[0, 0], [1, 0], [1, 1]], ai 0] := by unfold aLst lstF; rw [psP_zero, if_pos rfl, psP_cuts]
  have e2 : widF (fun k => (lvlF (cutsF psP) (k : Nat)).length) (off psP psP.length + 1) = (0, 1) := by rw [psP_cuts]; rfl
  rw [e1] at h1
  rw [wid_eq psP_zero, e2, psP_zero] at h2
  have h3 := ref15_SameRows [[0, 0], [1, 0], [1, 1]] [[0, 0], [1, 0], [1, 1]] (by decide) (by decide)
  rw [decide_eq_true rfl] at h3
  refine PC.enter 39 [.tmp 0] [21, 22, 23, 24] Go.Proofs.Tryz.func8 rfl rfl rfl rfl rfl (by simp) (AWp.of ?_); simp only [go_sem]
  repeat (first | ((with_reducible refine AWp.ofC ?_ ?_); (focus exact rfl); simp only [go_sem]) | ((with_reducible refine an ?_ ?_); focus exact Au))
  repeat ((with_reducible refine an ?_ ?_); focus exact As)
  refine (law23_pair).val.use ?_; simp only [go_sem]
  repeat (first | ((with_reducible refine AWp.ofC ?_ ?_); (focus exact rfl); simp only [go_sem]) | ((with_reducible refine an ?_ ?_); focus exact Au))
  repeat ((with_reducible refine an ?_ ?_); focus exact As)
  refine (h1).val.use ?_; simp only [go_sem]
  repeat (first | ((with_reducible refine AWp.ofC ?_ ?_); (focus exact rfl); simp only [go_sem]) | ((with_reducible refine an ?_ ?_); focus exact Au))
  repeat ((with_reducible refine an ?_ ?_); focus exact As)
  refine (law23_pair).val.use ?_; simp only [go_sem]
  repeat (first | ((with_reducible refine AWp.ofC ?_ ?_); (focus exact rfl); simp only [go_sem]) | ((with_reducible refine an ?_ ?_); focus exact Au))
  repeat ((with_reducible refine an ?_ ?_); focus exact As)
  refine (h2).val.use ?_; simp only [go_sem]
  repeat (first | ((with_reducible refine AWp.ofC ?_ ?_); (focus exact rfl); simp only [go_sem]) | ((with_reducible refine an ?_ ?_); focus exact Au))
  repeat ((with_reducible refine an ?_ ?_); focus exact As)
  refine GCall.use (ab true) (fun _ => ⟨At, (h3).val.use ⟨rfl, rfl⟩⟩) ?_; simp only [go_sem]
  repeat (first | ((with_reducible refine AWp.ofC ?_ ?_); (focus exact rfl); simp only [go_sem]) | ((with_reducible refine an ?_ ?_); focus exact Au))
  refine ret_eq ?_; simp only [go_sem]
  rfl
/-! Small traces. -/
def fewP (x : Pr) : Bool := !(decide (20 < (x.evs.length : Int)) || (decide (20 < (x.vars.length : Int)) || x.evs.any asg20))
def fewF (ps : List Pr) : Bool := ps.all fewP && (decide ((ps.length : Int) ≤ 10) && decide ((off ps ps.length : Int) ≤ 40))
theorem fewF_sm {ps : List Pr} (h : fewF ps = true) : Sm ps := by
  simp only [fewF, fewP, asg20, Bool.and_eq_true, decide_eq_true_eq, List.all_eq_true, Bool.not_eq_true', Bool.or_eq_false_iff, decide_eq_false_iff_not, List.any_eq_false] at h
  obtain ⟨h2, h1, _⟩ := h
  exact ⟨by omega, fun p hp => by have := (h2 p hp).1; omega, fun p hp => by have := (h2 p hp).2.1; omega, fun p hp e he => by have := (h2 p hp).2.2 e he; omega⟩
theorem law23_few1 (e : Ev) : PC Go.Proofs.Tryz.prog 53 [aEv e] (ab (asg20 e)) := by
  refine PC.enter 7 [.tmp 2] [1] Go.Proofs.Tryz.func53 rfl rfl rfl rfl rfl (by simp) (AWp.of ?_); simp only [go_sem]
  repeat (first | ((with_reducible refine AWp.ofC ?_ ?_); (focus exact rfl); simp only [go_sem]) | ((with_reducible refine an ?_ ?_); focus exact Au))
  refine ret_eq ?_; simp only [go_sem]
  rfl
theorem addW_in {a b : Int} (h : -9223372036854775808 ≤ a + b ∧ a + b ≤ 9223372036854775807) : addW a b = a + b := IntWalk.i64_in _ (by omega)
theorem law23_few (ps : List Pr) (hl : ps.length ≤ 9223372036854775807) : PC Go.Proofs.Tryz.prog 9 [aTr ps] (ab (fewF ps)) := by
  refine PC.enter 42 [.tmp 2] [1, 5] Go.Proofs.Tryz.func9 rfl rfl rfl rfl rfl (by simp) (AWp.of ?_); simp only [go_sem]
  repeat (first | ((with_reducible refine AWp.ofC ?_ ?_); (focus exact rfl); simp only [go_sem]) | ((with_reducible refine an ?_ ?_); focus exact Au))
  refine AWp.range1' ps.length [3] [1, 7, 8] (fun k vs L => L = [] ∧ ∃ z : Int, vs = [ai z] ∧ (-9223372036854775808 ≤ z ∧ z ≤ 9223372036854775807) ∧ (k ≤ 10 → z = off ps k ∧ z ≤ 20 * k) ∧ ∀ (j : Nat) (hj : j < ps.length), j < k → fewP ps[j] = true) hl rfl rfl rfl ⟨rfl, 0, rfl, by omega, fun _ => ⟨by simp [off], by omega⟩, fun _ _ h => by omega⟩ ?_ ?_
  · rintro k vs L hk - ⟨rfl, z, rfl, hz, hz2, hI⟩
    have hgp := getD_map (f := aPr) hk
    have hof := off_succ hk
    have hfp : fewP ps[k] = !(decide (20 < (ps[k].evs.length : Int)) || (decide (20 < (ps[k].vars.length : Int)) || ps[k].evs.any asg20)) := rfl
    have hall : fewP ps[k] = false → fewF ps = false := fun h => by
      unfold fewF
      rw [Bool.and_eq_false_iff]
      exact .inl (List.all_eq_false.2 ⟨_, List.getElem_mem hk, by rw [h]; decide⟩)
    have hI' : fewP ps[k] = true → ∀ (j : Nat) (hj : j < ps.length), j < k + 1 → fewP ps[j] = true := fun h j hj hjk => by
      by_cases e : j = k
      · subst e; exact h
      · exact hI j hj (by omega)
    clear hI
    generalize ps[k] = x at *
    simp only [go_sem]
    repeat ((with_reducible refine an ?_ ?_); focus exact As)
    refine AWp.of ?_; simp only [go_sem, hgp]
    repeat ((with_reducible refine an ?_ ?_); focus exact As)
    intros
    refine AWp.seq (AWp.regionW ?_)
    simp only [go_sem]
    have hz3 : (-9223372036854775808 ≤ addW z x.evs.length ∧ addW z x.evs.length ≤ 9223372036854775807) := by
      unfold addW
      rw [IntKind.wrap_i64]
      omega
    have hz4 : x.evs.length ≤ 20 → k ≤ 9 → addW z x.evs.length = off ps (k + 1) ∧ addW z x.evs.length ≤ 20 * (k + 1 : Nat) := fun h1 h2 => by
      obtain ⟨h3, h4⟩ := hz2 (by omega)
      rw [addW_in (by omega), hof]
      omega
    generalize addW z x.evs.length = z' at *
    repeat (first | ((with_reducible refine AWp.ofC ?_ ?_); (focus exact rfl); simp only [go_sem]) | ((with_reducible refine an ?_ ?_); focus exact Au))
    refine GCall.use (ab (x.evs.any asg20)) (fun hg => ⟨by have := hg; simp at this ⊢; omega, (events_containsFunc x.evs (by have := hg; simp at this; omega) _ rfl asg20 fun e _ => (law23_few1 e).val).val.use ⟨rfl, rfl⟩⟩) ?_; simp only [go_sem]
    repeat (first | ((with_reducible refine AWp.ofC ?_ ?_); (focus exact rfl); simp only [go_sem]) | ((with_reducible refine an ?_ ?_); focus exact Au))
    refine ⟨fun h => ?_, fun h1 h2 h3 => ?_⟩
    · have hx : fewP x = false := by
        rw [hfp, Bool.not_eq_false']
        simpa [or_assoc] using h
      rw [hall hx]
      repeat (first | ((with_reducible refine AWp.ofC ?_ ?_); (focus exact rfl); simp only [go_sem]) | ((with_reducible refine an ?_ ?_); focus exact Au))
      refine ret_eq ?_; simp only [go_sem]
    · have hx : fewP x = true := by
        rw [hfp]
        simp [h2, h3]
        omega
      repeat (first | ((with_reducible refine AWp.ofC ?_ ?_); (focus exact rfl); simp only [go_sem]) | ((with_reducible refine an ?_ ?_); focus exact Au))
      exact ⟨_, List.Sublist.refl _, rfl, z', rfl, hz3, fun h => hz4 (by omega) (by omega), hI' hx⟩
  · rintro vs L - ⟨rfl, z, rfl, hz, hz2, hI⟩
    have hall : ps.all fewP = true := List.all_eq_true.2 fun x hx => by
      obtain ⟨j, hj, rfl⟩ := List.getElem_of_mem hx
      exact hI j hj hj
    have hfw : fewF ps = (decide ((ps.length : Int) ≤ 10) && decide ((off ps ps.length : Int) ≤ 40)) := by unfold fewF; rw [hall]; rfl
    have he : (decide ((ps.length : Int) ≤ 10) && decide (z ≤ 40)) = fewF ps := by
      rw [hfw]
      by_cases h : (ps.length : Int) ≤ 10
      · rw [(hz2 (by omega)).1]
      · simp [h]
    simp only [go_sem]
    repeat (first | ((with_reducible refine AWp.ofC ?_ ?_); (focus exact rfl); simp only [go_sem]) | ((with_reducible refine an ?_ ?_); focus exact Au))
    refine ret_eq ?_
    simp only [go_sem]
    rw [← he]
theorem law23_listed (ps : List Pr) (hs : Sm ps) : PC Go.Proofs.Tryz.prog 14 [aTr ps] (aLst ps) := by
  have h1 := ref12_Valid ps hs
  have h2 := fun hv => ref23_List ps hs hv
  have hR : ∀ x : List (List Int), aRows x = .sl 1 (x.map aInts) := fun _ => rfl
  unfold aLst lstF lstE
  cases hv : validF ps with
  | false =>
    rw [hv] at h1
    refine PC.enter 17 [.tmp 2, .tmp 3] [1] Go.Proofs.Tryz.func14 rfl rfl rfl rfl rfl (by simp) (AWp.of ?_); simp only [go_sem]
    repeat (first | ((with_reducible refine AWp.ofC ?_ ?_); (focus exact rfl); simp only [go_sem]) | ((with_reducible refine an ?_ ?_); focus exact Au))
    repeat ((with_reducible refine an ?_ ?_); focus exact As)
    refine (h1).val.use ?_; simp only [go_sem]
    repeat (first | ((with_reducible refine AWp.ofC ?_ ?_); (focus exact rfl); simp only [go_sem]) | ((with_reducible refine an ?_ ?_); focus exact Au))
    refine ret_view [] ?_; simp only [go_sem]
    exact .mkTup (Vws.cons (.nil 1) (Vws.refl _))
  | true =>
    rw [hv] at h1
    have h2 := h2 hv
    by_cases h5 : (cutsF ps).length ≤ 5000
    · rw [if_neg (by omega)] at h2
      rw [if_pos rfl, if_pos h5, if_pos rfl]
      generalize cutsF ps = cs at *
      refine PC.enter 17 [.tmp 2, .tmp 3] [1] Go.Proofs.Tryz.func14 rfl rfl rfl rfl rfl (by simp) (AWp.of ?_); simp only [go_sem]
      repeat (first | ((with_reducible refine AWp.ofC ?_ ?_); (focus exact rfl); simp only [go_sem]) | ((with_reducible refine an ?_ ?_); focus exact Au))
      repeat ((with_reducible refine an ?_ ?_); focus exact As)
      refine (h1).val.use ?_; simp only [go_sem]
      repeat (first | ((with_reducible refine AWp.ofC ?_ ?_); (focus exact rfl); simp only [go_sem]) | ((with_reducible refine an ?_ ?_); focus exact Au))
      repeat ((with_reducible refine an ?_ ?_); focus exact As)
      refine (h2).val.use ?_; simp only [go_sem]
      repeat (first | ((with_reducible refine AWp.ofC ?_ ?_); (focus exact rfl); simp only [go_sem]) | ((with_reducible refine an ?_ ?_); focus exact Au))
      refine ret_eq ?_; simp only [go_sem]
    · rw [if_pos (by omega)] at h2
      rw [if_pos rfl, if_neg h5, if_neg (by decide)]
      refine PC.enter 17 [.tmp 2, .tmp 3] [1] Go.Proofs.Tryz.func14 rfl rfl rfl rfl rfl (by simp) (AWp.of ?_); simp only [go_sem]
      repeat (first | ((with_reducible refine AWp.ofC ?_ ?_); (focus exact rfl); simp only [go_sem]) | ((with_reducible refine an ?_ ?_); focus exact Au))
      repeat ((with_reducible refine an ?_ ?_); focus exact As)
      refine (h1).val.use ?_; simp only [go_sem]
      repeat (first | ((with_reducible refine AWp.ofC ?_ ?_); (focus exact rfl); simp only [go_sem]) | ((with_reducible refine an ?_ ?_); focus exact Au))
      repeat ((with_reducible refine an ?_ ?_); focus exact As)
      refine (h2).val.use ?_; simp only [go_sem]
      repeat (first | ((with_reducible refine AWp.ofC ?_ ?_); (focus exact rfl); simp only [go_sem]) | ((with_reducible refine an ?_ ?_); focus exact Au))
      refine ret_view [] ?_; simp only [go_sem]
      exact .mkTup (Vws.cons (.nil 1) (Vws.refl _))
end Go.AL
end
section
/- The law CutsLists: the walk. No condition. -/
namespace Go.AL
open Go Go.RowKit
set_option maxRecDepth 4000
set_option maxHeartbeats 4000000 in
theorem lists_walk {ps : List Pr} (hl : ps.length ≤ 9223372036854775807) (hf : fewF ps = true) (hs : Sm ps) (k : Int) : PC Go.Proofs.Tryz.prog 3 [aTr ps, ai k] (ab true) := by
  have haw := law23_awake
  have hfew := law23_few ps hl
  have hC := cuts_Count ps hs
  have hL := cuts_List ps hs
  have hLev := cuts_Level ps hs k
  have hW := cuts_Widest ps hs
  have hli := law23_listed ps hs
  have hR12 := fun hv => ref12_Count ps hs hv
  have hR : ∀ x : List (List Int), aRows x = .sl 1 (x.map aInts) := fun _ => rfl
  have z0 : ((0 : Nat) : Int) = 0 := rfl
  rw [hf] at hfew
  unfold aLst at hL hli
  cases hv : validF ps with
  | false =>
    have e1 : lstE ps = 1 := by unfold lstE; rw [hv]; rfl
    have e2 : lstF ps = [] := by unfold lstF; rw [e1]; rfl
    have e3 : lvOf ps = [] := by unfold lvOf; rw [e1]; rfl
    have e4 : aLevel ps k = .tup [.sl 1 [], ai 1] := by unfold aLevel; rw [hv]; rfl
    rw [e4] at hLev
    rw [e1, e2] at hC hL hli
    rw [e1, e3] at hW
    change PC _ _ _ (.tup [ai 0, ai 0, ai 1]) at hW
    change PC _ _ _ (.tup [ai 0, ai 1]) at hC
    clear hR12
    refine PC.enter 158 [.tmp 4] [2] Go.Proofs.Tryz.func3 rfl rfl rfl rfl rfl (by simp) (AWp.of ?_); simp only [go_sem]
    repeat (first | ((with_reducible refine AWp.ofC ?_ ?_); (focus exact rfl); simp only [go_sem]) | ((with_reducible refine an ?_ ?_); focus exact Au))
    repeat ((with_reducible refine an ?_ ?_); focus exact As)
    refine (haw).val.use ?_; simp only [go_sem]
    repeat (first | ((with_reducible refine AWp.ofC ?_ ?_); (focus exact rfl); simp only [go_sem]) | ((with_reducible refine an ?_ ?_); focus exact Au))
    repeat ((with_reducible refine an ?_ ?_); focus exact As)
    refine (hfew).val.use ?_; simp only [go_sem]
    repeat (first | ((with_reducible refine AWp.ofC ?_ ?_); (focus exact rfl); simp only [go_sem]) | ((with_reducible refine an ?_ ?_); focus exact Au))
    repeat ((with_reducible refine an ?_ ?_); focus exact As)
    refine (hC).val.use ?_; simp only [go_sem]
    repeat (first | ((with_reducible refine AWp.ofC ?_ ?_); (focus exact rfl); simp only [go_sem]) | ((with_reducible refine an ?_ ?_); focus exact Au))
    repeat ((with_reducible refine an ?_ ?_); focus exact As)
    refine (hL).val.use ?_; simp only [go_sem]
    repeat (first | ((with_reducible refine AWp.ofC ?_ ?_); (focus exact rfl); simp only [go_sem]) | ((with_reducible refine an ?_ ?_); focus exact Au))
    repeat ((with_reducible refine an ?_ ?_); focus exact As)
    refine (hLev).val.use ?_; simp only [go_sem]
    repeat (first | ((with_reducible refine AWp.ofC ?_ ?_); (focus exact rfl); simp only [go_sem]) | ((with_reducible refine an ?_ ?_); focus exact Au))
    repeat ((with_reducible refine an ?_ ?_); focus exact As)
    refine (hW).val.use ?_; simp only [go_sem]
    repeat (first | ((with_reducible refine AWp.ofC ?_ ?_); (focus exact rfl); simp only [go_sem]) | ((with_reducible refine an ?_ ?_); focus exact Au))
    repeat ((with_reducible refine an ?_ ?_); focus exact As)
    refine (hli).val.use ?_; simp only [go_sem]
    repeat (first | ((with_reducible refine AWp.ofC ?_ ?_); (focus exact rfl); simp only [go_sem]) | ((with_reducible refine an ?_ ?_); focus exact Au))
    refine GCall.use (ai 0) (fun g => by simp at g) ?_
    simp only [go_sem]
    repeat (first | ((with_reducible refine AWp.ofC ?_ ?_); (focus exact rfl); simp only [go_sem, Int.reduceEq, z0]) | ((with_reducible refine an ?_ ?_); focus exact Au))
    refine ret_eq ?_; simp only [go_sem]
  | true =>
    have hcs := lst_zero (ps := ps)
    have hC12 := hR12 hv
    have hcb : ∀ c ∈ cutsF ps, Cb c := fun c hc => isF_cb hs ((mem_cutsF hv).1 hc)
    by_cases h5 : (cutsF ps).length ≤ 5000
    · have e1 : lstE ps = 0 := hcs.2 ⟨hv, h5⟩
      have e2 : lstF ps = cutsF ps := by unfold lstF; rw [e1]; rfl
      have hRW := ref23_Widest ps hs hv (cutsF ps) (by omega) hcb
      have hRL := ref23_Level (cutsF ps) (by omega) hcb k
      have hSR := ref15_SameRows (cutsF ps) (cutsF ps) (by omega) fun x hx => (hcb x hx).1
      rw [wid_eq e1, e1] at hW
      rw [e1, e2] at hC hL hli
      rw [decide_eq_true rfl] at hSR
      unfold aLevel at hLev
      rw [hv, if_pos rfl, if_pos e1] at hLev
      generalize widF (fun k => (lvlF (cutsF ps) (k : Nat)).length) (off ps ps.length + 1) = w at *
      by_cases hk : k < 0 ∨ (off ps ps.length : Int) < k
      · rw [if_pos hk] at hLev
        clear hRL
        generalize cutsF ps = cs at *
        generalize off ps ps.length = n at *
        have hkd : (decide (k < 0) || decide ((n : Int) < k)) = true := by simpa using hk
        refine PC.enter 158 [.tmp 4] [2] Go.Proofs.Tryz.func3 rfl rfl rfl rfl rfl (by simp) (AWp.of ?_); simp only [go_sem]
        repeat (first | ((with_reducible refine AWp.ofC ?_ ?_); (focus exact rfl); simp only [go_sem]) | ((with_reducible refine an ?_ ?_); focus exact Au))
        repeat ((with_reducible refine an ?_ ?_); focus exact As)
        refine (haw).val.use ?_; simp only [go_sem]
        repeat (first | ((with_reducible refine AWp.ofC ?_ ?_); (focus exact rfl); simp only [go_sem]) | ((with_reducible refine an ?_ ?_); focus exact Au))
        repeat ((with_reducible refine an ?_ ?_); focus exact As)
        refine (hfew).val.use ?_; simp only [go_sem]
        repeat (first | ((with_reducible refine AWp.ofC ?_ ?_); (focus exact rfl); simp only [go_sem]) | ((with_reducible refine an ?_ ?_); focus exact Au))
        repeat ((with_reducible refine an ?_ ?_); focus exact As)
        refine (hC).val.use ?_; simp only [go_sem]
        repeat (first | ((with_reducible refine AWp.ofC ?_ ?_); (focus exact rfl); simp only [go_sem]) | ((with_reducible refine an ?_ ?_); focus exact Au))
        repeat ((with_reducible refine an ?_ ?_); focus exact As)
        refine (hL).val.use ?_; simp only [go_sem]
        repeat (first | ((with_reducible refine AWp.ofC ?_ ?_); (focus exact rfl); simp only [go_sem]) | ((with_reducible refine an ?_ ?_); focus exact Au))
        repeat ((with_reducible refine an ?_ ?_); focus exact As)
        refine (hLev).val.use ?_; simp only [go_sem]
        repeat (first | ((with_reducible refine AWp.ofC ?_ ?_); (focus exact rfl); simp only [go_sem]) | ((with_reducible refine an ?_ ?_); focus exact Au))
        repeat ((with_reducible refine an ?_ ?_); focus exact As)
        refine (hW).val.use ?_; simp only [go_sem]
        repeat (first | ((with_reducible refine AWp.ofC ?_ ?_); (focus exact rfl); simp only [go_sem]) | ((with_reducible refine an ?_ ?_); focus exact Au))
        repeat ((with_reducible refine an ?_ ?_); focus exact As)
        refine (hli).val.use ?_; simp only [go_sem]
        repeat (first | ((with_reducible refine AWp.ofC ?_ ?_); (focus exact rfl); simp only [go_sem, Int.reduceEq]) | ((with_reducible refine an ?_ ?_); focus exact Au))
        refine GCall.use (ai n) (fun _ => ⟨At, hC12.val.use ⟨rfl, rfl⟩⟩) ?_
        simp only [go_sem, hkd]
        repeat (first | ((with_reducible refine AWp.ofC ?_ ?_); (focus exact rfl); simp only [go_sem, z0]) | ((with_reducible refine an ?_ ?_); focus exact Au))
        repeat ((with_reducible refine an ?_ ?_); focus exact As)
        refine (hRW).val.use ?_; simp only [go_sem]
        repeat (first | ((with_reducible refine AWp.ofC ?_ ?_); (focus exact rfl); simp only [go_sem]) | ((with_reducible refine an ?_ ?_); focus exact Au))
        repeat ((with_reducible refine an ?_ ?_); focus exact As)
        refine GCall.use (ab true) (fun _ => ⟨At, (hSR).val.use ⟨rfl, rfl⟩⟩) ?_; simp only [go_sem]
        repeat (first | ((with_reducible refine AWp.ofC ?_ ?_); (focus exact rfl); simp only [go_sem]) | ((with_reducible refine an ?_ ?_); focus exact Au))
        refine ret_eq ?_; simp only [go_sem]
      · rw [if_neg hk] at hLev
        have hkl : lvlF (cutsF ps) k = levF ps k.toNat := by
          have := lvl_cuts hv (k := k.toNat) (by omega)
          rwa [show ((k.toNat : Nat) : Int) = k by omega] at this
        have hll : (levF ps k.toNat).length ≤ 1000000 := by
          rw [← hkl]
          have := List.length_filter_le (fun c => decide (c.sum = k)) (cutsF ps)
          unfold lvlF; omega
        have hSR2 := ref15_SameRows (levF ps k.toNat) (levF ps k.toNat) hll fun x hx => (isF_cb hs ((mem_levF hv _ x).1 hx).1).1
        rw [decide_eq_true rfl] at hSR2
        rw [hkl] at hRL
        clear hkl hll
        generalize cutsF ps = cs at *
        generalize levF ps k.toNat = lk at *
        generalize off ps ps.length = n at *
        have hkd : (decide (k < 0) || decide ((n : Int) < k)) = false := by simpa using hk
        refine PC.enter 158 [.tmp 4] [2] Go.Proofs.Tryz.func3 rfl rfl rfl rfl rfl (by simp) (AWp.of ?_); simp only [go_sem]
        repeat (first | ((with_reducible refine AWp.ofC ?_ ?_); (focus exact rfl); simp only [go_sem]) | ((with_reducible refine an ?_ ?_); focus exact Au))
        repeat ((with_reducible refine an ?_ ?_); focus exact As)
        refine (haw).val.use ?_; simp only [go_sem]
        repeat (first | ((with_reducible refine AWp.ofC ?_ ?_); (focus exact rfl); simp only [go_sem]) | ((with_reducible refine an ?_ ?_); focus exact Au))
        repeat ((with_reducible refine an ?_ ?_); focus exact As)
        refine (hfew).val.use ?_; simp only [go_sem]
        repeat (first | ((with_reducible refine AWp.ofC ?_ ?_); (focus exact rfl); simp only [go_sem]) | ((with_reducible refine an ?_ ?_); focus exact Au))
        repeat ((with_reducible refine an ?_ ?_); focus exact As)
        refine (hC).val.use ?_; simp only [go_sem]
        repeat (first | ((with_reducible refine AWp.ofC ?_ ?_); (focus exact rfl); simp only [go_sem]) | ((with_reducible refine an ?_ ?_); focus exact Au))
        repeat ((with_reducible refine an ?_ ?_); focus exact As)
        refine (hL).val.use ?_; simp only [go_sem]
        repeat (first | ((with_reducible refine AWp.ofC ?_ ?_); (focus exact rfl); simp only [go_sem]) | ((with_reducible refine an ?_ ?_); focus exact Au))
        repeat ((with_reducible refine an ?_ ?_); focus exact As)
        refine (hLev).val.use ?_; simp only [go_sem]
        repeat (first | ((with_reducible refine AWp.ofC ?_ ?_); (focus exact rfl); simp only [go_sem]) | ((with_reducible refine an ?_ ?_); focus exact Au))
        repeat ((with_reducible refine an ?_ ?_); focus exact As)
        refine (hW).val.use ?_; simp only [go_sem]
        repeat (first | ((with_reducible refine AWp.ofC ?_ ?_); (focus exact rfl); simp only [go_sem]) | ((with_reducible refine an ?_ ?_); focus exact Au))
        repeat ((with_reducible refine an ?_ ?_); focus exact As)
        refine (hli).val.use ?_; simp only [go_sem]
        repeat (first | ((with_reducible refine AWp.ofC ?_ ?_); (focus exact rfl); simp only [go_sem, Int.reduceEq]) | ((with_reducible refine an ?_ ?_); focus exact Au))
        refine GCall.use (ai n) (fun _ => ⟨At, hC12.val.use ⟨rfl, rfl⟩⟩) ?_
        simp only [go_sem, hkd]
        repeat (first | ((with_reducible refine AWp.ofC ?_ ?_); (focus exact rfl); simp only [go_sem, Int.reduceEq]) | ((with_reducible refine an ?_ ?_); focus exact Au))
        repeat ((with_reducible refine an ?_ ?_); focus exact As)
        refine GCall.use (aRows lk) (fun _ => ⟨At, (hRL).val.use ⟨rfl, rfl⟩⟩) ?_; simp only [go_sem]
        try simp only [hR]
        repeat ((with_reducible refine an ?_ ?_); focus exact As)
        refine GCall.use (ab true) (fun _ => ⟨At, (hSR2).val.use ⟨rfl, rfl⟩⟩) ?_; simp only [go_sem]
        repeat (first | ((with_reducible refine AWp.ofC ?_ ?_); (focus exact rfl); simp only [go_sem]) | ((with_reducible refine an ?_ ?_); focus exact Au))
        repeat ((with_reducible refine an ?_ ?_); focus exact As)
        refine (hRW).val.use ?_; simp only [go_sem]
        repeat (first | ((with_reducible refine AWp.ofC ?_ ?_); (focus exact rfl); simp only [go_sem]) | ((with_reducible refine an ?_ ?_); focus exact Au))
        repeat ((with_reducible refine an ?_ ?_); focus exact As)
        refine GCall.use (ab true) (fun _ => ⟨At, (hSR).val.use ⟨rfl, rfl⟩⟩) ?_; simp only [go_sem]
        repeat (first | ((with_reducible refine AWp.ofC ?_ ?_); (focus exact rfl); simp only [go_sem]) | ((with_reducible refine an ?_ ?_); focus exact Au))
        refine ret_eq ?_; simp only [go_sem]
    · have e1 : lstE ps = 16 := by unfold lstE; rw [hv, if_pos rfl, if_neg h5]
      have e2 : lstF ps = [] := by unfold lstF; rw [e1]; rfl
      have e3 : lvOf ps = [] := by unfold lvOf; rw [e1]; rfl
      have e4 : lstE ps ≠ 0 := by rw [e1]; decide
      rw [e1, e2] at hC hL hli
      rw [e1, e3] at hW
      change PC _ _ _ (.tup [ai 0, ai 0, ai 16]) at hW
      change PC _ _ _ (.tup [ai 0, ai 16]) at hC
      unfold aLevel at hLev
      rw [hv, if_pos rfl, if_neg e4, e1] at hLev
      generalize off ps ps.length = n at *
      clear hcb hR12 hcs
      by_cases hk : k < 0 ∨ (n : Int) < k
      · rw [if_pos hk] at hLev
        have hkd : (decide (k < 0) || decide ((n : Int) < k)) = true := by simpa using hk
        refine PC.enter 158 [.tmp 4] [2] Go.Proofs.Tryz.func3 rfl rfl rfl rfl rfl (by simp) (AWp.of ?_); simp only [go_sem]
        repeat (first | ((with_reducible refine AWp.ofC ?_ ?_); (focus exact rfl); simp only [go_sem]) | ((with_reducible refine an ?_ ?_); focus exact Au))
        repeat ((with_reducible refine an ?_ ?_); focus exact As)
        refine (haw).val.use ?_; simp only [go_sem]
        repeat (first | ((with_reducible refine AWp.ofC ?_ ?_); (focus exact rfl); simp only [go_sem]) | ((with_reducible refine an ?_ ?_); focus exact Au))
        repeat ((with_reducible refine an ?_ ?_); focus exact As)
        refine (hfew).val.use ?_; simp only [go_sem]
        repeat (first | ((with_reducible refine AWp.ofC ?_ ?_); (focus exact rfl); simp only [go_sem]) | ((with_reducible refine an ?_ ?_); focus exact Au))
        repeat ((with_reducible refine an ?_ ?_); focus exact As)
        refine (hC).val.use ?_; simp only [go_sem]
        repeat (first | ((with_reducible refine AWp.ofC ?_ ?_); (focus exact rfl); simp only [go_sem]) | ((with_reducible refine an ?_ ?_); focus exact Au))
        repeat ((with_reducible refine an ?_ ?_); focus exact As)
        refine (hL).val.use ?_; simp only [go_sem]
        repeat (first | ((with_reducible refine AWp.ofC ?_ ?_); (focus exact rfl); simp only [go_sem]) | ((with_reducible refine an ?_ ?_); focus exact Au))
        repeat ((with_reducible refine an ?_ ?_); focus exact As)
        refine (hLev).val.use ?_; simp only [go_sem]
        repeat (first | ((with_reducible refine AWp.ofC ?_ ?_); (focus exact rfl); simp only [go_sem]) | ((with_reducible refine an ?_ ?_); focus exact Au))
        repeat ((with_reducible refine an ?_ ?_); focus exact As)
        refine (hW).val.use ?_; simp only [go_sem]
        repeat (first | ((with_reducible refine AWp.ofC ?_ ?_); (focus exact rfl); simp only [go_sem]) | ((with_reducible refine an ?_ ?_); focus exact Au))
        repeat ((with_reducible refine an ?_ ?_); focus exact As)
        refine (hli).val.use ?_; simp only [go_sem]
        repeat (first | ((with_reducible refine AWp.ofC ?_ ?_); (focus exact rfl); simp only [go_sem, Int.reduceEq]) | ((with_reducible refine an ?_ ?_); focus exact Au))
        refine GCall.use (ai n) (fun _ => ⟨At, hC12.val.use ⟨rfl, rfl⟩⟩) ?_
        simp only [go_sem, hkd]
        repeat (first | ((with_reducible refine AWp.ofC ?_ ?_); (focus exact rfl); simp only [go_sem, Int.reduceEq, z0]) | ((with_reducible refine an ?_ ?_); focus exact Au))
        refine ret_eq ?_; simp only [go_sem]
      · rw [if_neg hk] at hLev
        have hkd : (decide (k < 0) || decide ((n : Int) < k)) = false := by simpa using hk
        refine PC.enter 158 [.tmp 4] [2] Go.Proofs.Tryz.func3 rfl rfl rfl rfl rfl (by simp) (AWp.of ?_); simp only [go_sem]
        repeat (first | ((with_reducible refine AWp.ofC ?_ ?_); (focus exact rfl); simp only [go_sem]) | ((with_reducible refine an ?_ ?_); focus exact Au))
        repeat ((with_reducible refine an ?_ ?_); focus exact As)
        refine (haw).val.use ?_; simp only [go_sem]
        repeat (first | ((with_reducible refine AWp.ofC ?_ ?_); (focus exact rfl); simp only [go_sem]) | ((with_reducible refine an ?_ ?_); focus exact Au))
        repeat ((with_reducible refine an ?_ ?_); focus exact As)
        refine (hfew).val.use ?_; simp only [go_sem]
        repeat (first | ((with_reducible refine AWp.ofC ?_ ?_); (focus exact rfl); simp only [go_sem]) | ((with_reducible refine an ?_ ?_); focus exact Au))
        repeat ((with_reducible refine an ?_ ?_); focus exact As)
        refine (hC).val.use ?_; simp only [go_sem]
        repeat (first | ((with_reducible refine AWp.ofC ?_ ?_); (focus exact rfl); simp only [go_sem]) | ((with_reducible refine an ?_ ?_); focus exact Au))
        repeat ((with_reducible refine an ?_ ?_); focus exact As)
        refine (hL).val.use ?_; simp only [go_sem]
        repeat (first | ((with_reducible refine AWp.ofC ?_ ?_); (focus exact rfl); simp only [go_sem]) | ((with_reducible refine an ?_ ?_); focus exact Au))
        repeat ((with_reducible refine an ?_ ?_); focus exact As)
        refine (hLev).val.use ?_; simp only [go_sem]
        repeat (first | ((with_reducible refine AWp.ofC ?_ ?_); (focus exact rfl); simp only [go_sem]) | ((with_reducible refine an ?_ ?_); focus exact Au))
        repeat ((with_reducible refine an ?_ ?_); focus exact As)
        refine (hW).val.use ?_; simp only [go_sem]
        repeat (first | ((with_reducible refine AWp.ofC ?_ ?_); (focus exact rfl); simp only [go_sem]) | ((with_reducible refine an ?_ ?_); focus exact Au))
        repeat ((with_reducible refine an ?_ ?_); focus exact As)
        refine (hli).val.use ?_; simp only [go_sem]
        repeat (first | ((with_reducible refine AWp.ofC ?_ ?_); (focus exact rfl); simp only [go_sem, Int.reduceEq]) | ((with_reducible refine an ?_ ?_); focus exact Au))
        refine GCall.use (ai n) (fun _ => ⟨At, hC12.val.use ⟨rfl, rfl⟩⟩) ?_
        simp only [go_sem, hkd]
        repeat (first | ((with_reducible refine AWp.ofC ?_ ?_); (focus exact rfl); simp only [go_sem, Int.reduceEq, z0]) | ((with_reducible refine an ?_ ?_); focus exact Au))
        refine ret_eq ?_; simp only [go_sem]
theorem law23_CutsLists (ps : List Pr) (k : Int) (hl : ps.length ≤ 9223372036854775807) : PC Go.Proofs.Tryz.prog 3 [aTr ps, ai k] (ab true) := by
  have haw := law23_awake
  have hfew := law23_few ps hl
  cases hf : fewF ps with
  | false =>
    rw [hf] at hfew
    refine PC.enter 158 [.tmp 4] [2] Go.Proofs.Tryz.func3 rfl rfl rfl rfl rfl (by simp) (AWp.of ?_); simp only [go_sem]
    repeat (first | ((with_reducible refine AWp.ofC ?_ ?_); (focus exact rfl); simp only [go_sem]) | ((with_reducible refine an ?_ ?_); focus exact Au))
    repeat ((with_reducible refine an ?_ ?_); focus exact As)
    refine (haw).val.use ?_; simp only [go_sem]
    repeat (first | ((with_reducible refine AWp.ofC ?_ ?_); (focus exact rfl); simp only [go_sem]) | ((with_reducible refine an ?_ ?_); focus exact Au))
    repeat ((with_reducible refine an ?_ ?_); focus exact As)
    refine (hfew).val.use ?_; simp only [go_sem]
    repeat (first | ((with_reducible refine AWp.ofC ?_ ?_); (focus exact rfl); simp only [go_sem]) | ((with_reducible refine an ?_ ?_); focus exact Au))
    refine ret_eq ?_; simp only [go_sem]
  | true => exact lists_walk hl hf (fewF_sm hf) k
end Go.AL
end
section
/- What is read of arguments that are traces or lists. No condition. -/
namespace Go.AL
open Go Go.RowKit
set_option maxRecDepth 100000
section
variable {H : Type} {enc : TypeId × Value → H} {W : World}
theorem rdInt : Rd enc Go.Proofs.Tryz.prog W 3 1 ai (fun _ => True) := (Rd.int Go.Proofs.Tryz.underlying3).map id (fun _ => rfl) (fun _ _ => trivial)
theorem rdAsg : Rd enc Go.Proofs.Tryz.prog W 126 2 aAsg (fun _ => True) :=
  (Rd.struct (ts := [3, 3]) Go.Proofs.Tryz.underlying126 rfl rfl (by kernel_rfl) (by kernel_rfl)
    (.cons (Rd.int Go.Proofs.Tryz.underlying3) (fun _ => ⟨rfl, rfl⟩) (.cons (Rd.int Go.Proofs.Tryz.underlying3) (fun _ => ⟨rfl, rfl⟩) .nil))).map (fun (y : Int × Int × Unit) => (y.1, y.2.1)) (fun _ => rfl) (fun _ _ => trivial)
theorem rdAsgs : Rd enc Go.Proofs.Tryz.prog W 83 1 aAsgs (fun _ => True) :=
  (Rd.slice Go.Proofs.Tryz.underlying83 (by kernel_rfl : Program.cellsOf Go.Proofs.Tryz.prog 126 = 2) (by decide) rdAsg).map id (fun _ => rfl) (fun _ _ => trivial)
theorem rdVar : Rd enc Go.Proofs.Tryz.prog W 123 2 aVar (fun _ => True) :=
  (Rd.struct (ts := [9, 3]) Go.Proofs.Tryz.underlying123 rfl rfl (by kernel_rfl) (by kernel_rfl)
    (.cons (Rd.str Go.Proofs.Tryz.underlying9) (fun _ => ⟨rfl, rfl⟩) (.cons (Rd.int Go.Proofs.Tryz.underlying3) (fun _ => ⟨rfl, rfl⟩) .nil))).map (fun (y : ByteArray × Int × Unit) => (y.1, y.2.1)) (fun _ => rfl) (fun _ _ => trivial)
theorem rdVars : Rd enc Go.Proofs.Tryz.prog W 78 1 aVars (fun _ => True) :=
  (Rd.slice Go.Proofs.Tryz.underlying78 (by kernel_rfl : Program.cellsOf Go.Proofs.Tryz.prog 123 = 2) (by decide) rdVar).map id (fun _ => rfl) (fun _ _ => trivial)
theorem rdEv : Rd enc Go.Proofs.Tryz.prog W 85 5 aEv (fun _ => True) :=
  (Rd.struct (ts := [3, 3, 3, 3, 83]) Go.Proofs.Tryz.underlying85 rfl rfl (by kernel_rfl) (by kernel_rfl)
    (.cons (Rd.int Go.Proofs.Tryz.underlying3) (fun _ => ⟨rfl, rfl⟩) (.cons (Rd.int Go.Proofs.Tryz.underlying3) (fun _ => ⟨rfl, rfl⟩) (.cons (Rd.int Go.Proofs.Tryz.underlying3) (fun _ => ⟨rfl, rfl⟩)
      (.cons (Rd.int Go.Proofs.Tryz.underlying3) (fun _ => ⟨rfl, rfl⟩) (.cons rdAsgs (fun _ => ⟨rfl, rfl⟩) .nil)))))).map (fun (y : Int × Int × Int × Int × List (Int × Int) × Unit) => ⟨y.1, y.2.1, y.2.2.1, y.2.2.2.1, y.2.2.2.2.1⟩) (fun _ => rfl) (fun _ _ => trivial)
theorem rdEvs : Rd enc Go.Proofs.Tryz.prog W 79 1 aEvs (fun _ => True) :=
  (Rd.slice Go.Proofs.Tryz.underlying79 (by kernel_rfl : Program.cellsOf Go.Proofs.Tryz.prog 85 = 5) (by decide) rdEv).map id (fun _ => rfl) (fun _ _ => trivial)
theorem rdPr : Rd enc Go.Proofs.Tryz.prog W 81 3 aPr (fun _ => True) :=
  (Rd.struct (ts := [9, 78, 79]) Go.Proofs.Tryz.underlying81 rfl rfl (by kernel_rfl) (by kernel_rfl)
    (.cons (Rd.str Go.Proofs.Tryz.underlying9) (fun _ => ⟨rfl, rfl⟩) (.cons rdVars (fun _ => ⟨rfl, rfl⟩) (.cons rdEvs (fun _ => ⟨rfl, rfl⟩) .nil)))).map (fun (y : ByteArray × List (ByteArray × Int) × List Ev × Unit) => ⟨y.1, y.2.1, y.2.2.1⟩) (fun _ => rfl) (fun _ _ => trivial)
end
end Go.AL
end
section
/- A trace is read: its processes are no more than a slice may have. No condition. -/
namespace Go.AL
open Go Go.RowKit
set_option maxRecDepth 100000
section
variable {H : Type} {enc : TypeId × Value → H} {W : World}
theorem rdPrsL : Rd enc Go.Proofs.Tryz.prog W 22 1 aPrs (fun l => l.length ≤ maxLen) :=
  (Rd.slice Go.Proofs.Tryz.underlying22 (by kernel_rfl : Program.cellsOf Go.Proofs.Tryz.prog 81 = 3) (by decide) rdPr).map id (fun _ => rfl) (fun _ h => h.1)
theorem rdTrL : Rd enc Go.Proofs.Tryz.prog W 24 1 aTr (fun l => l.length ≤ maxLen) :=
  (Rd.struct (ts := [22]) Go.Proofs.Tryz.underlying24 rfl rfl (by kernel_rfl) (by kernel_rfl) (.cons rdPrsL (fun _ => ⟨rfl, rfl⟩) .nil)).map (fun (y : List Pr × Unit) => y.1) (fun _ => rfl) (fun _ h => h.1)
end
end Go.AL
end
