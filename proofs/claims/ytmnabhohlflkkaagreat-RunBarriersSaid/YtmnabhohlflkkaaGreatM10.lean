/- Texts of this claim's proof: WMc, WMd, WMe, AlWrp, AlRng, AlGrd, WMf, WU1, WSs, WSp, WCp, WCk, WEx, WRr, WEy, WPq, WNa, WNb, WTm, WDx, WPu, WNc, WQa, WQb, WQc, WQf. No condition. -/
import Derived.Test.YtmnabhohlflkkaaGreatM9
import Derived.Test.YtmnabhohlflkkaaGreatM5
import Derived.Test.YtmnabhohlflkkaaGreatM3
import Derived.Test.YtmnabhohlflkkaaGreatM8
import Derived.Test.YtmnabhohlflkkaaGreatM7
import Derived.Test.YtmnabhohlflkkaaGreatM6
section
/- The package cuts: all consistent cuts in order. No condition. -/
namespace Go.AL
open Go Go.RowKit
set_option maxRecDepth 4000
def GrowS (n : Nat) (r : AV) (L : AHeap) : Prop := (n = 0 ∧ r = anil ∧ L = []) ∨ ∃ b cap, n ≤ cap ∧ r = .ls b 1 0 0 cap ∧ L = [(b, .row 42 1 (List.replicate n anil) cap)]
theorem rows_grow (n : Nat) (hn : n ≤ 1000000) : MCalls Go.Proofs.Tryz.prog 76 [anil, ai (n : Nat)] [] (GrowS n) := by
  refine MCalls.enter' 27 [.tmp 4] [] Go.Proofs.Tryz.func76 rfl rfl rfl rfl rfl (by simp) (AWp.of ?_); simp only [go_sem]
  repeat (first | ((with_reducible refine AWp.ofC ?_ ?_); (focus exact rfl); simp only [go_sem]) | ((with_reducible refine an ?_ ?_); focus exact Au))
  intro _
  repeat (first | ((with_reducible refine AWp.ofC ?_ ?_); (focus exact rfl); simp only [go_sem]) | ((with_reducible refine an ?_ ?_); focus exact Au))
  repeat (first | ((with_reducible refine AWp.ofC ?_ ?_); (focus exact rfl); simp only [go_sem]) | ((with_reducible refine an ?_ ?_); focus exact Au))
  refine ⟨fun h1 => ?_, fun h1 => ?_⟩
  · repeat (first | ((with_reducible refine AWp.ofC ?_ ?_); (focus exact rfl); simp only [go_sem]) | ((with_reducible refine an ?_ ?_); focus exact Au))
    intro b cap hc
    repeat (first | ((with_reducible refine AWp.ofC ?_ ?_); (focus exact rfl); simp only [go_sem]) | ((with_reducible refine an ?_ ?_); focus exact Au))
    refine ret_own ?_
    simp only [go_sem]
    have e : ((n : Int) - (((0 : Nat) : Int) - ((0 : Nat) : Int))).toNat = n := by omega
    rw [e]
    exact .inr ⟨b, cap, by omega, by simp, rfl⟩
  · have : n = 0 := by omega
    repeat (first | ((with_reducible refine AWp.ofC ?_ ?_); (focus exact rfl); simp only [go_sem]) | ((with_reducible refine an ?_ ?_); focus exact Au))
    refine ret_own ?_
    simp only [go_sem]
    exact .inl ⟨this, rfl, rfl⟩
def CatS (ls : List (List (List Int))) (k : Nat) (v : AV) (L : AHeap) : Prop :=
  (ls.flatten = [] ∧ v = anil ∧ L = []) ∨ ∃ b cap xs, v = .ls b 1 0 (ls.take k).flatten.length cap ∧ L = [(b, .row 42 1 xs cap)] ∧ (ls.take k).flatten.length ≤ xs.length ∧ xs.take (ls.take k).flatten.length = (ls.take k).flatten.map aInts
theorem flat_succ {ls : List (List (List Int))} {k : Nat} (hk : k < ls.length) : (ls.take (k + 1)).flatten = (ls.take k).flatten ++ ls[k] := by
  rw [List.take_succ_eq_append_getElem hk, List.flatten_append]; simp
theorem flat_le {ls : List (List (List Int))} (k : Nat) : (ls.take k).flatten.length ≤ ls.flatten.length := by
  conv => rhs; rw [← List.take_append_drop k ls, List.flatten_append, List.length_append]
  omega
theorem rows_concat (ls : List (List (List Int))) (hl : ls.length ≤ 100000000) (hf : ls.flatten.length ≤ 1000000) :
    MCalls Go.Proofs.Tryz.prog 28 [.sl 1 (ls.map aRows)] [] fun r L => CatS ls ls.length r L := by
  have hR : ∀ x : List (List Int), aRows x = .sl 1 (x.map aInts) := fun _ => rfl
  refine MCalls.enter' 36 [.tmp 2] [] Go.Proofs.Tryz.func28 rfl rfl rfl rfl rfl (by simp) (AWp.of ?_); simp only [go_sem]
  repeat (first | ((with_reducible refine AWp.ofC ?_ ?_); (focus exact rfl); simp only [go_sem]) | ((with_reducible refine an ?_ ?_); focus exact Au))
  refine AWp.range' ls.length [3] [0, 9, 10] (fun k vs L => L = [] ∧ vs = [ai ((ls.take k).flatten.length : Nat)]) (by omega) rfl rfl rfl ⟨rfl, by rw [List.take_zero]; rfl⟩ ?_ ?_
  · rintro k vs L hk - ⟨rfl, rfl⟩
    have h1 := flat_le (ls := ls) k
    have h2 := flat_le (ls := ls) (k + 1)
    have h3 := congrArg List.length (flat_succ hk)
    rw [List.length_append] at h3
    have hg := getD_map (f := aRows) hk
    simp only [go_sem]
    repeat (first | ((with_reducible refine AWp.ofC ?_ ?_); (focus exact rfl); simp only [go_sem, hg]) | ((with_reducible refine an ?_ ?_); focus exact Au))
    intro _
    repeat (first | ((with_reducible refine AWp.ofC ?_ ?_); (focus exact rfl); simp only [go_sem]) | ((with_reducible refine an ?_ ?_); focus exact Au))
    exact ⟨_, List.Sublist.refl _, rfl, by rw [h3]; simp⟩
  · rintro vs L - ⟨rfl, rfl⟩
    rw [List.take_length]
    simp only [go_sem]
    repeat (first | ((with_reducible refine AWp.ofC ?_ ?_); (focus exact rfl); simp only [go_sem]) | ((with_reducible refine an ?_ ?_); focus exact Au))
    refine (rows_grow _ hf).val.mono ?_
    intro r L hr
    have hI : CatS ls 0 r L := by
      rcases hr with ⟨h0, rfl, rfl⟩ | ⟨b, cap, hc, rfl, rfl⟩
      · exact .inl ⟨List.eq_nil_of_length_eq_zero h0, rfl, rfl⟩
      · exact .inr ⟨b, cap, _, by simp, rfl, by simp, by simp⟩
    clear hr
    have hfo : fo r = (True, r) := by rcases hI with ⟨_, rfl, _⟩ | ⟨b, cap, xs, rfl, _⟩ <;> rfl
    simp only [go_sem, hfo]
    repeat (first | ((with_reducible refine AWp.ofC ?_ ?_); (focus exact rfl); simp only [go_sem]) | ((with_reducible refine an ?_ ?_); focus exact Au))
    refine AWp.range' ls.length [6] [25, 26] (fun k vs L => ∃ v, vs = [v] ∧ CatS ls k v L) (by omega) rfl rfl rfl ⟨_, rfl, hI⟩ ?_ ?_
    · clear hI
      rintro k vs L hk - ⟨v, rfl, hC⟩
      have h2 := flat_le (ls := ls) (k + 1)
      have hs := flat_succ hk
      have h3 := congrArg List.length hs
      rw [List.length_append] at h3
      have hg := getD_map (f := aRows) hk
      have hll : (ls[k].map aInts).length = ls[k].length := List.length_map _
      rcases hC with ⟨h0, rfl, rfl⟩ | ⟨b, cap, xs, rfl, rfl, hx, ht⟩
      · have he : ls[k].map aInts = [] := by
          rw [List.flatten_eq_nil_iff.1 h0 _ (List.getElem_mem hk)]; rfl
        simp only [go_sem]
        repeat (first | ((with_reducible refine AWp.ofC ?_ ?_); (focus exact rfl); simp only [go_sem, hg, he]) | ((with_reducible refine an ?_ ?_); focus exact Au))
        exact ⟨_, List.Sublist.refl _, _, rfl, .inl ⟨h0, rfl, rfl⟩⟩
      · have hy : (ls.take (k + 1)).flatten.map aInts = (ls.take k).flatten.map aInts ++ ls[k].map aInts := by rw [hs, List.map_append]
        unfold CatS
        rw [hy, h3, ← ht]
        simp only [go_sem]
        repeat (first | ((with_reducible refine AWp.ofC ?_ ?_); (focus exact rfl); simp only [go_sem, hg]) | ((with_reducible refine an ?_ ?_); focus exact Au))
        intro b' cap' hc
        refine ⟨_, List.Sublist.refl _, _, rfl, .inr ⟨b', cap', _, rfl, rfl, ?_, ?_⟩⟩
        · rw [List.length_append, List.length_take]; omega
        · rw [List.take_of_length_le (by rw [List.length_append, List.length_take]; omega)]
    · clear hI
      rintro vs L - ⟨v, rfl, hC⟩
      have hfo : fo v = (True, v) := by rcases hC with ⟨_, rfl, _⟩ | ⟨b, cap, xs, rfl, _⟩ <;> rfl
      simp only [go_sem]
      repeat (first | ((with_reducible refine AWp.ofC ?_ ?_); (focus exact rfl); simp only [go_sem, hfo]) | ((with_reducible refine an ?_ ?_); focus exact Au))
      refine ret_own ?_
      simp only [go_sem]
      exact hC
/-! The levels that there are, their list, and the error. -/
noncomputable def lstE (ps : List Pr) : Int := if validF ps = true then (if (cutsF ps).length ≤ 5000 then 0 else 16) else 1
noncomputable def lvOf (ps : List Pr) : List (List (List Int)) := if lstE ps = 0 then (List.range (nlev ps)).map (levF ps) else []
noncomputable def lstF (ps : List Pr) : List (List Int) := if lstE ps = 0 then cutsF ps else []
noncomputable def aLst (ps : List Pr) : AV := .tup [aRows (lstF ps), ai (lstE ps)]
theorem lst_zero {ps : List Pr} : lstE ps = 0 ↔ validF ps = true ∧ (cutsF ps).length ≤ 5000 := by
  unfold lstE
  split
  · split <;> simp_all
  · simp_all
theorem aLvs_eq (ps : List Pr) : aLvs ps = .tup [.sl 1 ((lvOf ps).map aRows), ai (lstE ps)] := by
  unfold aLvs lvOf lvsF
  by_cases hv : validF ps = true
  · by_cases h5 : (cutsF ps).length ≤ 5000
    · rw [if_pos hv, if_pos h5, if_pos (lst_zero.2 ⟨hv, h5⟩)]
      unfold lstE
      rw [if_pos hv, if_pos h5, List.map_map]; rfl
    · rw [if_pos hv, if_neg h5, if_neg fun h => h5 (lst_zero.1 h).2]
      unfold lstE
      rw [if_pos hv, if_neg h5]; rfl
  · rw [if_neg hv, if_neg fun h => hv (lst_zero.1 h).1]
    unfold lstE
    rw [if_neg hv]; rfl
theorem lev_nlev {ps : List Pr} (hv : validF ps = true) : levF ps (nlev ps) = [] := by
  have h1 : (levF ps (off ps ps.length + 1)).isEmpty = true := by rw [levF_end hv (by omega)]; rfl
  have : nlev ps < off ps ps.length + 2 := by
    unfold nlev
    have := List.findIdx_lt_length_of_exists (p := fun k => (levF ps k).isEmpty) (xs := List.range (off ps ps.length + 2)) ⟨off ps ps.length + 1, by simp, h1⟩
    rwa [List.length_range] at this
  exact List.isEmpty_iff.1 (range_findIdx (fun k => (levF ps k).isEmpty) _ this)
theorem nlev_le {ps : List Pr} : nlev ps ≤ off ps ps.length + 2 := by
  have := List.findIdx_le_length (p := fun k => (levF ps k).isEmpty) (xs := List.range (off ps ps.length + 2))
  rwa [List.length_range] at this
theorem cum_nlev {ps : List Pr} (hv : validF ps = true) : cumF ps (nlev ps) = cutsF ps := by
  have h := cumF_end (lev_nlev hv)
  unfold cutsF
  rcases Nat.lt_or_ge (off ps ps.length + 1) (nlev ps) with h1 | h1
  · have h2 := cumF_end (levF_end hv (show off ps ps.length < off ps ps.length + 1 by omega)) (nlev ps - (off ps ps.length + 1))
    rw [show off ps ps.length + 1 + (nlev ps - (off ps ps.length + 1)) = nlev ps by omega] at h2
    exact h2
  · have := h (off ps ps.length + 1 - nlev ps)
    rw [show nlev ps + (off ps ps.length + 1 - nlev ps) = off ps ps.length + 1 by omega] at this
    exact this.symm
theorem lv_flat (ps : List Pr) : (lvOf ps).flatten = lstF ps := by
  unfold lvOf lstF
  split
  · rename_i h
    rw [← cum_nlev (lst_zero.1 h).1]
    unfold cumF
    rw [List.flatMap_def]
  · rfl
theorem lst_len (ps : List Pr) : (lstF ps).length ≤ 5000 := by
  unfold lstF
  split
  · rename_i h; exact (lst_zero.1 h).2
  · exact Nat.zero_le _
theorem lv_len {ps : List Pr} (hs : Sm ps) : (lvOf ps).length ≤ 10000002 := by
  unfold lvOf
  split
  · rename_i h
    have := (valid_len (lst_zero.1 h).1).2
    rw [List.length_map, List.length_range]
    have := nlev_le (ps := ps)
    have := off_small hs ps.length (Nat.le_refl _)
    omega
  · exact Nat.zero_le _
theorem cuts_levels' (ps : List Pr) (hs : Sm ps) : PC Go.Proofs.Tryz.prog 75 [aTr ps] (.tup [.sl 1 ((lvOf ps).map aRows), ai (lstE ps)]) := by
  rw [← aLvs_eq]; exact cuts_levels ps hs
end Go.AL
end
section
/- The package cuts: list, Count, List, Level, Widest; the reference's. No condition. -/
namespace Go.AL
open Go Go.RowKit
set_option maxRecDepth 4000
theorem Vw.pre {L : AHeap} {b k n c : Nat} {t : TypeId} {xs ys : List AV} {cap : Nat} (h : lk L b = some (.row t k xs cap)) (hn : n ≤ xs.length) (ht : xs.take n = ys) : Vw L (.ls b k 0 n c) (.sl k ys) :=
  .ls h (by omega) (by rw [List.drop_zero, ht]) (by rw [List.drop_zero, ht]; exact (Vws.refl ys).2)
theorem cuts_list (ps : List Pr) (hs : Sm ps) : PC Go.Proofs.Tryz.prog 85 [aTr ps] (aLst ps) := by
  have h1 := cuts_levels' ps hs
  have hf : (lvOf ps).flatten.length ≤ 1000000 := by rw [lv_flat]; have := lst_len ps; omega
  have h2 := rows_concat (lvOf ps) (by have := lv_len hs; omega) hf
  have hR : ∀ x : List (List Int), aRows x = .sl 1 (x.map aInts) := fun _ => rfl
  have hfl := lv_flat ps
  unfold aLst
  rw [← hfl, hR]
  generalize lvOf ps = ls at *
  generalize lstE ps = e at *
  refine PC.enter 14 [.tmp 2, .tmp 3] [1] Go.Proofs.Tryz.func85 rfl rfl rfl rfl rfl (by simp) (AWp.of ?_); simp only [go_sem]
  repeat (first | ((with_reducible refine AWp.ofC ?_ ?_); (focus exact rfl); simp only [go_sem]) | ((with_reducible refine an ?_ ?_); focus exact Au))
  repeat ((with_reducible refine an ?_ ?_); focus exact As)
  refine (h1).val.use ?_; simp only [go_sem]
  repeat (first | ((with_reducible refine AWp.ofC ?_ ?_); (focus exact rfl); simp only [go_sem]) | ((with_reducible refine an ?_ ?_); focus exact Au))
  refine h2.val.mono ?_
  intro r L hC
  unfold CatS at hC
  rw [List.take_length] at hC
  rcases hC with ⟨h0, rfl, rfl⟩ | ⟨b, cap, xs, rfl, rfl, hx, ht⟩
  · simp only [go_sem]
    repeat (first | ((with_reducible refine AWp.ofC ?_ ?_); (focus exact rfl); simp only [go_sem]) | ((with_reducible refine an ?_ ?_); focus exact Au))
    refine ret_view [] ?_; simp only [go_sem]
    rw [h0]
    exact .mkTup (Vws.cons (.nil 1) (Vws.refl _))
  · simp only [go_sem]
    repeat (first | ((with_reducible refine AWp.ofC ?_ ?_); (focus exact rfl); simp only [go_sem]) | ((with_reducible refine an ?_ ?_); focus exact Au))
    refine ret_view [true] ?_; simp only [go_sem]
    exact .mkTup (Vws.cons (Vw.pre (if_pos rfl) hx ht) (Vws.refl _))
theorem cuts_List (ps : List Pr) (hs : Sm ps) : PC Go.Proofs.Tryz.prog 46 [aTr ps] (aLst ps) := by
  have h1 := cuts_list ps hs
  unfold aLst at *
  refine PC.enter 8 [.tmp 2, .tmp 3] [1] Go.Proofs.Tryz.func46 rfl rfl rfl rfl rfl (by simp) (AWp.of ?_); simp only [go_sem]
  repeat (first | ((with_reducible refine AWp.ofC ?_ ?_); (focus exact rfl); simp only [go_sem]) | ((with_reducible refine an ?_ ?_); focus exact Au))
  repeat ((with_reducible refine an ?_ ?_); focus exact As)
  refine (h1).val.use ?_; simp only [go_sem]
  repeat (first | ((with_reducible refine AWp.ofC ?_ ?_); (focus exact rfl); simp only [go_sem]) | ((with_reducible refine an ?_ ?_); focus exact Au))
  refine ret_eq ?_; simp only [go_sem]
/-! The full cut. -/
def fullC (ps : List Pr) : List Int := ps.map fun x => (x.evs.length : Int)
theorem fullC_at {ps : List Pr} {p : Nat} (hp : p < ps.length) : cAt (fullC ps) p = ps[p].evs.length := by
  unfold fullC
  rw [cAt_nat (by rw [List.length_map]; exact hp), List.getElem_map]
theorem fullC_is {ps : List Pr} (hv : validF ps = true) : isF ps (fullC ps) = true := by
  have hl : (fullC ps).length = ps.length := List.length_map _
  refine isF_iff.2 ⟨hl, (inRange_iff hl).2 fun p hp => ?_, closed_iff.2 fun p hp i hi hk _ => ?_⟩
  · rw [fullC_at hp]; omega
  · obtain ⟨s, hs, j, hj, e, _, _⟩ := sndr_some (recv_sndr (valid_parts hv).2.2 hp hi hk)
    rw [e]
    simp only
    rw [fullC_at hs]; omega
theorem fullC_sum (ps : List Pr) : (fullC ps).sum = off ps ps.length := by
  unfold fullC off
  rw [List.take_length]
  induction ps with
  | nil => rfl
  | cons x ps ih => rw [List.map_cons, List.sum_cons, ih, List.map_cons, List.sum_cons]; omega
theorem levF_some {ps : List Pr} (hv : validF ps = true) {k : Nat} (hk : k ≤ off ps ps.length) : levF ps k ≠ [] := fun h => by
  have := levF_nil h (off ps ps.length - k)
  rw [show k + (off ps ps.length - k) = off ps ps.length by omega] at this
  have h2 := (mem_levF hv (off ps ps.length) (fullC ps)).2 ⟨fullC_is hv, fullC_sum ps⟩
  rw [this] at h2
  cases h2
theorem nlev_off {ps : List Pr} (hv : validF ps = true) : nlev ps = off ps ps.length + 1 := by
  have h1 := lev_nlev hv
  rcases Nat.lt_or_ge (off ps ps.length) (nlev ps) with h | h
  · rcases Nat.lt_or_ge (off ps ps.length + 1) (nlev ps) with h2 | h2
    · exact absurd (levF_end hv (by omega)) (nlev_lt h2)
    · omega
  · exact absurd h1 (levF_some hv h)
/-! The cuts of a size. -/
def lvlF (l : List (List Int)) (k : Int) : List (List Int) := l.filter fun c => decide (c.sum = k)
/-- The first place with the most, and how many. -/
def widF (f : Nat → Nat) : Nat → Nat × Nat
  | 0 => (0, 0)
  | n + 1 => if (widF f n).2 < f n then (n, f n) else widF f n
noncomputable def aLevel (ps : List Pr) (k : Int) : AV := .tup (if validF ps = true then (if k < 0 ∨ (off ps ps.length : Int) < k then [.sl 1 [], ai 2] else if lstE ps = 0 then [aRows (levF ps k.toNat), ai 0] else [.sl 1 [], ai (lstE ps)]) else [.sl 1 [], ai 1])
theorem trace_Count (ps : List Pr) (hs : Sm ps) (hv : validF ps = true) : PC Go.Proofs.Tryz.prog 74 [aTr ps] (ai (off ps ps.length : Nat)) := by
  have h1 := trace_Valid ps hs
  have h8 := (valid_len hv).2
  have hof := off_small hs ps.length (Nat.le_refl _)
  have hE : (evArgs ps).length = off ps ps.length := by unfold evArgs; rw [List.length_map, evIds_length]
  rw [hv] at h1
  refine PC.enter 14 [.tmp 2] [1] Go.Proofs.Tryz.func74 rfl rfl rfl rfl rfl (by simp) (AWp.of ?_); simp only [go_sem]
  repeat (first | ((with_reducible refine AWp.ofC ?_ ?_); (focus exact rfl); simp only [go_sem]) | ((with_reducible refine an ?_ ?_); focus exact Au))
  repeat ((with_reducible refine an ?_ ?_); focus exact As)
  refine (h1).val.use ?_; simp only [go_sem]
  repeat (first | ((with_reducible refine AWp.ofC ?_ ?_); (focus exact rfl); simp only [go_sem]) | ((with_reducible refine an ?_ ?_); focus exact Au))
  intro b3
  repeat (first | ((with_reducible refine AWp.ofC ?_ ?_); (focus exact rfl); simp only [go_sem]) | ((with_reducible refine an ?_ ?_); focus exact Au))
  repeat ((with_reducible refine an ?_ ?_); focus exact As)
  refine (trace_events ps).val.use ?_; simp only [go_sem]
  refine AWp.block (AWp.rangeFunc rfl [3] (evArgs ps) (fun k L => L = [(b3, .row 3 1 [ai (k : Nat)] 1)] ∧ k ≤ (evArgs ps).length)
    (fun _ _ => False)
    rfl (trace_events1 ps hs) (fun x hx => by obtain ⟨k, hk⟩ := List.getElem?_of_mem hx; obtain ⟨_, _, _, _, _, _, rfl⟩ := evArgs_inv hk; rfl) ⟨rfl, by omega⟩ ?_ ?_ ?_)
  · rintro k x L' l hx ⟨rfl, hI⟩
    have hkl := (List.getElem?_eq_some_iff.1 hx).1
    obtain ⟨p, hp, i, hi, hk, hev, rfl⟩ := evArgs_inv hx
    simp only [go_sem]
    repeat (first | ((with_reducible refine AWp.ofC ?_ ?_); (focus exact rfl); simp only [go_sem]) | ((with_reducible refine an ?_ ?_); focus exact Au))
    exact ⟨_, List.Sublist.refl _, by simp, by omega⟩
  · rintro L' ⟨rfl, hI⟩
    rw [hE]
    simp only [go_sem]
    repeat (first | ((with_reducible refine AWp.ofC ?_ ?_); (focus exact rfl); simp only [go_sem]) | ((with_reducible refine an ?_ ?_); focus exact Au))
    refine ret_eq ?_; simp only [go_sem]
  · rintro e L' h
    exact h.elim
theorem cuts_Level (ps : List Pr) (hs : Sm ps) (k : Int) : PC Go.Proofs.Tryz.prog 27 [aTr ps, ai k] (aLevel ps k) := by
  have h1 := trace_Valid ps hs
  have h2 := fun hv => trace_Count ps hs hv
  have h3 := cuts_levels' ps hs
  have hR : ∀ x : List (List Int), aRows x = .sl 1 (x.map aInts) := fun _ => rfl
  have hlv : lstE ps = 0 → validF ps = true → ∀ (n : Nat), n ≤ off ps ps.length → n < (lvOf ps).length ∧ ((lvOf ps).map aRows).getD n .any = aRows (levF ps n) := fun h0 hv n hn => by
    have hl : (lvOf ps).length = off ps ps.length + 1 := by unfold lvOf; rw [if_pos h0, List.length_map, List.length_range, nlev_off hv]
    have hlt : n < (lvOf ps).length := by omega
    refine ⟨hlt, ?_⟩
    rw [getD_map hlt]
    unfold lvOf
    simp only [h0, if_true, List.getElem_map, List.getElem_range]
  have he : validF ps = true → lstE ps = 0 ∨ lstE ps = 16 := fun h => by unfold lstE; rw [if_pos h]; split <;> simp
  unfold aLevel
  cases hv : validF ps with
  | false =>
    rw [hv] at h1
    refine PC.enter 33 [.tmp 4, .tmp 5] [2] Go.Proofs.Tryz.func27 rfl rfl rfl rfl rfl (by simp) (AWp.of ?_); simp only [go_sem]
    repeat (first | ((with_reducible refine AWp.ofC ?_ ?_); (focus exact rfl); simp only [go_sem]) | ((with_reducible refine an ?_ ?_); focus exact Au))
    repeat ((with_reducible refine an ?_ ?_); focus exact As)
    refine (h1).val.use ?_; simp only [go_sem]
    repeat (first | ((with_reducible refine AWp.ofC ?_ ?_); (focus exact rfl); simp only [go_sem]) | ((with_reducible refine an ?_ ?_); focus exact Au))
    refine ret_view [] ?_; simp only [go_sem]
    exact .mkTup (Vws.cons (.nil 1) (Vws.refl _))
  | true =>
    rw [hv] at h1
    have h2 := h2 hv
    rw [if_pos rfl]
    refine PC.enter 33 [.tmp 4, .tmp 5] [2] Go.Proofs.Tryz.func27 rfl rfl rfl rfl rfl (by simp) (AWp.of ?_); simp only [go_sem]
    repeat (first | ((with_reducible refine AWp.ofC ?_ ?_); (focus exact rfl); simp only [go_sem]) | ((with_reducible refine an ?_ ?_); focus exact Au))
    repeat ((with_reducible refine an ?_ ?_); focus exact As)
    refine (h1).val.use ?_; simp only [go_sem]
    repeat (first | ((with_reducible refine AWp.ofC ?_ ?_); (focus exact rfl); simp only [go_sem]) | ((with_reducible refine an ?_ ?_); focus exact Au))
    repeat ((with_reducible refine an ?_ ?_); focus exact As)
    refine GCall.use (ai (off ps ps.length : Nat)) (fun _ => ⟨At, (h2).val.use ⟨rfl, rfl⟩⟩) ?_; simp only [go_sem]
    repeat ((with_reducible refine an ?_ ?_); focus exact As)
    repeat (first | ((with_reducible refine AWp.ofC ?_ ?_); (focus exact rfl); simp only [go_sem]) | ((with_reducible refine an ?_ ?_); focus exact Au))
    refine ⟨fun h => ?_, fun h => ?_⟩
    · repeat (first | ((with_reducible refine AWp.ofC ?_ ?_); (focus exact rfl); simp only [go_sem]) | ((with_reducible refine an ?_ ?_); focus exact Au))
      rw [if_pos (by omega)]
      refine ret_view [] ?_; simp only [go_sem]
      exact .mkTup (Vws.cons (.nil 1) (Vws.refl _))
    · intro h'
      rw [if_neg (by omega)]
      repeat (first | ((with_reducible refine AWp.ofC ?_ ?_); (focus exact rfl); simp only [go_sem]) | ((with_reducible refine an ?_ ?_); focus exact Au))
      repeat ((with_reducible refine an ?_ ?_); focus exact As)
      refine (h3).val.use ?_; simp only [go_sem]
      rcases he hv with e0 | e0
      · obtain ⟨q1, q2⟩ := hlv e0 hv k.toNat (by omega)
        rw [if_pos e0, e0]
        generalize levF ps k.toNat = lk at *
        generalize lvOf ps = ls at *
        repeat (first | ((with_reducible refine AWp.ofC ?_ ?_); (focus exact rfl); simp only [go_sem, q2]) | ((with_reducible refine an ?_ ?_); focus exact Au))
        refine ret_eq ?_; simp only [go_sem]
      · rw [if_neg (by omega), e0]
        repeat (first | ((with_reducible refine AWp.ofC ?_ ?_); (focus exact rfl); simp only [go_sem, Int.reduceEq]) | ((with_reducible refine an ?_ ?_); focus exact Au))
        refine ret_view [] ?_; simp only [go_sem]
        exact .mkTup (Vws.cons (.nil 1) (Vws.refl _))
end Go.AL
end
section
/- The reference's Level, Widest; equal rows; few. No condition. -/
namespace Go.AL
open Go Go.RowKit
set_option maxRecDepth 4000
end Go.AL
end
section
/- The layer AL: a statement whose sums may wrap. No condition. -/
namespace Go.AL
open Go Go.RowKit
def addW (a b : Int) : Int := IntKind.i64.wrap (a + b)
def aAddW (_C : Cfg) (o : Oper) (x y : AV) (ρ : Env) (L : AHeap) (K : ARes) : Prop :=
  match x, y with
  | .v (.int .i64 a), .v (.int .i64 b) => K (put ρ o.dst (ai (addW a b))) L
  | _, _ => False
def aopW (C : Cfg) (o : Oper) (ρ : Env) (L : AHeap) (K : ARes) : Prop :=
  match o.op with
  | .binOp .add _ x y _ => aAddW C o (ev ρ x) (ev ρ y) ρ L K
  | _ => aop C o ρ L K
theorem aopW_sound {C : Cfg} {o : Oper} {ρ : Env} {L : AHeap} {K : ARes} (hd : dstOk C o) (hdef : ∀ c, o.op ≠ .defer c) (h : aopW C o ρ L K) : AOp C o ρ L K := by
  unfold aopW at h
  split at h
  · rename_i t x y t' hop
    unfold aAddW at h
    split at h
    · rename_i a b hx hy
      refine AOp.val hd hdef (fun ac w A hρ hL => ⟨.int .i64 (addW a b), ?_, .v _⟩) h
      have h1 := hρ x; rw [hx] at h1; have h1 := h1.inv_v
      have h2 := hρ y; rw [hy] at h2; have h2 := h2.inv_v
      unfold execOp
      rw [hop]
      simp [h1, h2, binOp, eqGuard, Op.intArith, addW]
    · exact h.elim
  · exact aop_sound hd hdef h
def aregionW (C : Cfg) : List Oper → Env → AHeap → ARes → Prop
  | [], ρ, L, K => K ρ L
  | o :: rest, ρ, L, K => o.guard = none ∧ aopW C o ρ L fun ρ L => aregionW C rest ρ L K
def aregWK (C : Cfg) (rest : List Oper) (K : ARes) (ρ : Env) (L : AHeap) : Prop := aregionW C rest ρ L K
theorem aregionW_nil (C : Cfg) (ρ : Env) (L : AHeap) (K : ARes) : aregionW C [] ρ L K = K ρ L := rfl
theorem aregionW_cons (C : Cfg) (rest : List Oper) (o : Oper) (ρ : Env) (L : AHeap) (K : ARes) : aregionW C (o :: rest) ρ L K = (o.guard = none ∧ aopW C o ρ L (aregWK C rest K)) := rfl
theorem aregionW_sound {C : Cfg} {ops : Array Oper} {K : ARes} {n : Nat} {w0 : World} {M A0 : Foot} {Q : Exit → Act → World → Prop} (hQ : ∀ a w, post w0 M A0 C.N K a w → Q .normal a w) (hok : ops.toList.all (operOk C.N) = true) :
    ∀ (l : List Oper) (k : Nat), (∀ j, l[j]? = ops[k + j]?) → ∀ (ρ : Env) (L : AHeap) (a : Act) (w : World), aregionW C l ρ L K → St w0 M A0 C.N ρ L a w → wpOpsIn (Fw C.r) n C.P ops Q (List.range' k l.length) a w
  | [], k, _, ρ, L, a, w, h, hs => hQ a w ⟨ρ, L, h, hs⟩
  | o :: l, k, hl, ρ, L, a, w, h, hs => by
    have h0 : ops[k]? = some o := by simpa using (hl 0).symm
    have ho : operOk C.N o = true := List.all_eq_true.1 hok o (List.mem_of_getElem? (by simpa using h0))
    rw [List.length_cons, List.range'_succ, wpOpsIn_cons]
    refine wpOpIn_mono ?_ (AOp.gop h0 h.1 (aopW_sound (operOk_dst ho) (operOk_def ho) h.2) n w0 M A0 a w Q hs)
    rintro a' w' ⟨ρ', L', h1, h2⟩
    exact aregionW_sound hQ hok l (k + 1) (fun j => by have := hl (j + 1); simpa [Nat.add_assoc, Nat.add_comm 1 j] using this) ρ' L' a' w' h1 h2
theorem AWp.regionW {C : Cfg} {id : Nat} {ops : Array Oper} {Q : AQ} {ρ : Env} {L : AHeap} (h : aregionW C ops.toList ρ L (Q .normal)) : AWp C (.region id ops false) Q ρ L := fun hok n w0 M A0 a w hs => by
  refine wpIn_region ?_
  have := aregionW_sound (C := C) (ops := ops) (K := Q .normal) (n := n) (Q := cq C w0 M A0 Q) (fun a w ⟨ρ', L', h1, h2⟩ => ⟨ρ', L', h1, h2⟩) hok ops.toList 0 (by simp) ρ L a w h hs
  rwa [Array.length_toList, ← List.range_eq_range'] at this
attribute [go_sem] aregionW_nil aregionW_cons aregWK aopW aAddW
end Go.AL
end
section
/- The layer AL: ranges over slices of any length. No condition. -/
namespace Go.AL
open Go Go.RowKit
theorem AWp.range1 {C : Cfg} {id i1 i2 t s n t2 : Nat} {ty1 ty2 ty3 ty4 r1 r2 r3 : TypeId} {p1 p2 p3 : String} {a1 a2 a3 : Array Edge} {body : Code} {Q : AQ} {ρ : Env} {L : AHeap}
    (m : Nat) (ls ks : List Nat) (I : Nat → List AV → AHeap → Prop) (hm : m ≤ 9223372036854775807) (hs : get ρ s = ai 0) (hn : get ρ n = ai m) (hnk : n ∈ ks) (hsk : s ∉ ks) (hsl : s ∉ ls) (hts : t ≠ s) (htk : t ∉ ks) (h2k : t2 ∉ ks) (htl : t ∉ ls) (h2l : t2 ∉ ls)
    (h0 : I 0 (ls.map (get ρ)) L)
    (round : ∀ k vs L', k < m → vs.length = ls.length → I k vs L' → AWp C body (rangeQ id s k ls ks ρ (I (k + 1)) Q) ((s, ai k) :: lenv ls ks vs ρ) L')
    (done : ∀ vs L', vs.length = ls.length → I m vs L' → Q .normal ((s, ai m) :: lenv ls ks vs ρ) L') :
    AWp C (.block id (.loop (.seq (.region i1 #[⟨some t, .binOp .lss ty1 (.tmp s) (.tmp n) ty2, r1, p1, a1, none⟩] false) (.seq (.cond (.tmp t) .skip (.exit id)) (.seq body
      (.region i2 #[⟨some t2, .binOp .add ty3 (.tmp s) (.const (.int .i64 1)) ty4, r2, p2, a2, none⟩, ⟨some s, .move (.tmp t2), r3, p3, a3, none⟩] false)))))) Q ρ L := by
  have hnl : ∀ vs : List AV, vs.length = ls.length → get (lenv ls ks vs ρ) n = ai m := fun vs _ => by
    unfold lenv
    have hin : n ∈ (keep ks ρ).map (·.1) := by simp [keep, hnk]
    rw [get_append, if_pos hin]
    rcases get_keep ks ρ n with e | e
    · have : ∀ l : List Nat, n ∈ l → get (keep l ρ) n = get ρ n := fun l => by
        induction l with
        | nil => intro h; cases h
        | cons x r ih =>
          intro h
          simp only [keep, List.map_cons, get]
          split
          · rename_i e; rw [e]
          · rename_i e; exact ih ((List.mem_cons.1 h).resolve_left e)
      rw [this ks hnk, hn]
    · rw [e, hn]
  have hns : n ≠ s := fun e => hsk (e ▸ hnk)
  have dropT : ∀ (k : Nat) (vs : List AV) (x : AV) (i : Nat), get ((s, ai k) :: lenv ls ks vs ρ) i = .any ∨ get ((s, ai k) :: lenv ls ks vs ρ) i = get ((t, x) :: (s, ai k) :: lenv ls ks vs ρ) i := fun k vs x i => by
    by_cases hi : i = t
    · subst hi
      refine .inl ?_
      simp only [get, if_neg hts, lenv]
      rw [get_append, if_neg (by simp [keep, htk])]
      have : ∀ (l : List Nat) (v : List AV), i ∉ l → get (l.zip v) i = .any := fun l => by
        induction l with
        | nil => intro v _; rfl
        | cons x r ih =>
          intro v h
          cases v with
          | nil => rfl
          | cons y v =>
            simp only [List.zip_cons_cons, get]
            rw [if_neg (by rintro rfl; exact h List.mem_cons_self)]
            exact ih v (fun hh => h (List.mem_cons_of_mem _ hh))
      exact this ls vs htl
    · exact .inr (by simp [get, hi])
  refine AWp.block (AWp.loop (s :: ls) ks (fun vs' L' => ∃ (k : Nat) (vs : List AV), vs' = ai (k : Int) :: vs ∧ k ≤ m ∧ I k vs L') (fun vs' _ => match vs' with | .v (.int _ k) :: _ => m - k.toNat | _ => 0)
    ⟨0, _, by simp [hs], Nat.zero_le _, h0⟩ ?_)
  rintro vs' L' hl ⟨k, vs, rfl, hk, hI⟩
  have hvl : vs.length = ls.length := by simpa using hl
  -- the counter first
  refine AWp.st (ρ' := (s, ai k) :: lenv ls ks vs ρ) (L' := L') (fun w0 M A0 a w h => st_forget h fun i => ?_) ?_
  · by_cases hi : i = s
    · subst hi
      refine .inr ?_
      simp only [get, if_true, lenv]
      rw [get_append, if_neg (by simp [keep, hsk])]
      simp [get]
    · refine .inr ?_
      simp only [get, if_neg hi, lenv, List.zip_cons_cons]
      rw [get_append, get_append]
      split
      · rfl
      · simp [get, hi]
  have hget_s : get ((s, ai k) :: lenv ls ks vs ρ) s = ai k := by simp [get]
  have hget_n : get ((s, ai k) :: lenv ls ks vs ρ) n = ai m := by simp only [get, if_neg hns]; exact hnl vs hvl
  refine AWp.seq (AWp.region ?_)
  simp only [aregion, astep, aop, aval, ev, hget_s, hget_n, w2, fo, aEq, aBin, thenQ, put]
  refine ⟨by simp, ?_⟩
  refine AWp.seq (AWp.cond (t := decide ((k : Int) < m)) (by simp [ev, get]) (fun ht => ?_) (fun hf => ?_))
  · have hlt : k < m := by simpa using ht
    refine AWp.of ?_
    simp only [awp1, thenQ]
    refine AWp.st (ρ' := (s, ai k) :: lenv ls ks vs ρ) (L' := L') (fun w0 M A0 a w h => st_forget h (dropT k vs _)) ?_
    refine AWp.seq ((round k vs L' hlt hvl hI).mono ?_)
    intro e ρ' L'' hq
    cases e with
    | normal =>
      obtain ⟨g1, g2, L3, g3, g4⟩ := hq
      simp only [thenQ]
      refine AWp.region ?_
      have hi64 : I64 ((k : Int) + 1) := by unfold I64; omega
      simp only [aregion, astep, aop, aval, ev, g1, w2, fo, aEq, aBin, put, if_true, get]
      refine ⟨⟨⟨trivial, trivial⟩, trivial, hi64⟩, trivial, ?_⟩
      simp only [roundQ]
      have hks : ks.map (get ((s, ai ((k : Int) + 1)) :: (t2, ai ((k : Int) + 1)) :: ρ')) = ks.map (get ρ') := List.map_congr_left fun j hj => by
        simp only [get]; rw [if_neg (by rintro rfl; exact hsk hj), if_neg (by rintro rfl; exact h2k hj)]
      have hls : ls.map (get ((s, ai ((k : Int) + 1)) :: (t2, ai ((k : Int) + 1)) :: ρ')) = ls.map (get ρ') := List.map_congr_left fun j hj => by
        simp only [get]; rw [if_neg (by rintro rfl; exact hsl hj), if_neg (by rintro rfl; exact h2l hj)]
      refine ⟨by rw [hks]; exact g2, L3, g3, ⟨k + 1, _, ?_, hlt, g4⟩, ?_⟩
      · rw [List.map_cons, hls]
        simp only [get, if_true]
        rfl
      · simp only [List.map_cons, get, if_true]
        have : ((k : Int) + 1).toNat = k + 1 := by omega
        simp only [this, Int.toNat_natCast]
        omega
    | exit id' => simpa [thenQ, roundQ, blockQ, rangeQ] using hq
    | goto l => exact hq
    | ret => exact hq
    | panic c => exact hq
    | outgrown => exact hq
  · have hkm : k = m := by have : ¬ ((k : Int) < m) := by simpa using hf
                           omega
    subst hkm
    refine AWp.st (ρ' := (s, ai k) :: lenv ls ks vs ρ) (L' := L') (fun w0 M A0 a w h => st_forget h (dropT k vs _)) (AWp.of ?_)
    simp only [awp1, thenQ, roundQ, blockQ, if_true]
    exact done vs L' hvl hI
theorem AWp.range1' {C : Cfg} {id i1 i2 t s n t2 : Nat} {ty1 ty2 ty3 ty4 r1 r2 r3 : TypeId} {p1 p2 p3 : String} {a1 a2 a3 : Array Edge} {body : Code} {Q : AQ} {ρ : Env} {L : AHeap}
    (m : Nat) (ls ks : List Nat) (I : Nat → List AV → AHeap → Prop) (hm : m ≤ 9223372036854775807) (hs : get ρ s = ai 0) (hn : get ρ n = ai m) (hok : rOk s n t t2 ls ks = true)
    (h0 : I 0 (ls.map (get ρ)) L)
    (round : ∀ k vs L', k < m → vs.length = ls.length → I k vs L' → AWp C body (rangeQ id s k ls ks ρ (I (k + 1)) Q) ((s, ai k) :: lenv ls ks vs ρ) L')
    (done : ∀ vs L', vs.length = ls.length → I m vs L' → Q .normal ((s, ai m) :: lenv ls ks vs ρ) L') :
    AWp C (.block id (.loop (.seq (.region i1 #[⟨some t, .binOp .lss ty1 (.tmp s) (.tmp n) ty2, r1, p1, a1, none⟩] false) (.seq (.cond (.tmp t) .skip (.exit id)) (.seq body
      (.region i2 #[⟨some t2, .binOp .add ty3 (.tmp s) (.const (.int .i64 1)) ty4, r2, p2, a2, none⟩, ⟨some s, .move (.tmp t2), r3, p3, a3, none⟩] false)))))) Q ρ L := by
  simp only [rOk, Bool.and_eq_true, Bool.not_eq_true', List.contains_eq_mem, decide_eq_false_iff_not, decide_eq_true_eq, bne_iff_ne, ne_eq] at hok
  obtain ⟨⟨⟨⟨⟨⟨⟨h1, h2⟩, h3⟩, h4⟩, h5⟩, h6⟩, h7⟩, h8⟩ := hok
  exact AWp.range1 m ls ks I hm hs hn h1 h2 h3 h4 h5 h6 h7 h8 h0 round done
end Go.AL
end
section
/- The layer AL: a statement whose guarded operations are known to be wanted or not: a guarded call may turn the memory. No condition. -/
namespace Go.AL
open Go Go.RowKit

def astepF (C : Cfg) (all : List Oper) (o : Oper) (ρ : Env) (L : AHeap) (K : ARes) : Prop :=
  match o.guard with
  | none => aop C o ρ L K
  | some (j, want) => match gval all ρ j want with
    | some b => (b = want → aop C o ρ L K) ∧ (b ≠ want → K (put ρ o.dst .any) L)
    | none => False
def aregionF (C : Cfg) (all : List Oper) : List Oper → Env → AHeap → ARes → Prop
  | [], ρ, L, K => K ρ L
  | o :: rest, ρ, L, K => astepF C all o ρ L fun ρ L => aregionF C all rest ρ L K
def aregFK (C : Cfg) (all rest : List Oper) (K : ARes) (ρ : Env) (L : AHeap) : Prop := aregionF C all rest ρ L K
theorem aregionF_nil (C : Cfg) (all : List Oper) (ρ : Env) (L : AHeap) (K : ARes) : aregionF C all [] ρ L K = K ρ L := rfl
theorem aregionF_cons (C : Cfg) (all rest : List Oper) (o : Oper) (ρ : Env) (L : AHeap) (K : ARes) : aregionF C all (o :: rest) ρ L K = astepF C all o ρ L (aregFK C all rest K) := rfl
attribute [go_sem] aregionF_nil aregionF_cons astepF aregFK
end Go.AL
end
section
/- The law of layer 23: the example, small traces, what is listed; CutsLists. No condition. -/
namespace Go.AL
open Go Go.RowKit
set_option maxRecDepth 4000
def psP : List Pr := [⟨⟨#[97]⟩, [], [⟨2, 1, 0, 0, []⟩]⟩, ⟨⟨#[98]⟩, [], [⟨3, 0, 0, 0, []⟩]⟩]
/-! Small traces. -/
def fewP (x : Pr) : Bool := !(decide (20 < (x.evs.length : Int)) || (decide (20 < (x.vars.length : Int)) || x.evs.any asg20))
def fewF (ps : List Pr) : Bool := ps.all fewP && (decide ((ps.length : Int) ≤ 10) && decide ((off ps ps.length : Int) ≤ 40))
end Go.AL
end
section
/- Traces too large for any machine: a process with too many events is a fault. No condition. -/
namespace Go.AL
open Go Go.RowKit
set_option maxRecDepth 4000
theorem events_indexFuncB (l : List Ev) (hl : l.length ≤ 9223372036854775807) (g : AV) (hgf : fo g = (True, g)) (p : Ev → Bool) (hg : ∀ x ∈ l, PV Go.Proofs.Tryz.prog g [aEv x] (ab (p x))) :
    PC Go.Proofs.Tryz.prog 83 [aEvs l, g] (ai (match l.findIdx? p with | some i => (i : Int) | none => -1)) := by
  refine PC.enter 19 [.tmp 4] [] Go.Proofs.Tryz.func83 rfl rfl rfl rfl rfl (by simp) (AWp.of ?_); simp only [go_sem]
  repeat ((with_reducible refine an ?_ ?_); focus exact As)
  refine AWp.of ?_; simp only [go_sem]
  refine AWp.range1' l.length [] [0, 1, 7] (fun k vs L => L = [] ∧ ∀ i (h : i < l.length), i < k → p l[i] = false) (by omega) rfl rfl rfl ⟨rfl, by omega⟩ ?_ ?_
  · rintro k vs L' hk hvs ⟨rfl, hI⟩
    simp only [go_sem]
    repeat ((with_reducible refine an ?_ ?_); focus exact As)
    refine AWp.of ?_; simp only [go_sem]
    have hgk := hg l[k] (List.getElem_mem hk)
    try simp only [go_sem, aEv] at hgk
    repeat ((with_reducible refine an ?_ ?_); focus exact As)
    refine AWp.of ?_; simp only [go_sem, getD_map hk, hgf, aEv]
    refine ⟨⟨by omega, by omega⟩, hk, hgk.use (AWp.of ?_)⟩; simp only [go_sem]
    refine ⟨fun ht => ?_, fun hf => ?_⟩
    · repeat ((with_reducible refine an ?_ ?_); focus exact As)
      refine AWp.of ?_; simp only [go_sem]
      refine ret_eq ?_; simp only [go_sem]
      have : l.findIdx? p = some k := by rw [List.findIdx?_eq_some_iff_getElem]; exact ⟨hk, ht, fun j hj => by simpa using hI j (by omega) hj⟩
      rw [this]
    · refine ⟨[], List.Sublist.refl _, rfl, fun i h hi => ?_⟩
      by_cases e : i = k
      · subst e; exact hf
      · exact hI i h (by omega)
  · rintro vs L' hvs ⟨rfl, hI⟩
    simp only [go_sem]
    repeat ((with_reducible refine an ?_ ?_); focus exact As)
    refine AWp.of ?_; simp only [go_sem]
    repeat ((with_reducible refine an ?_ ?_); focus exact As)
    refine AWp.of ?_; simp only [go_sem]
    refine ret_eq ?_; simp only [go_sem]
    have : l.findIdx? p = none := by rw [List.findIdx?_eq_none_iff]; intro x hx; obtain ⟨i, hi, rfl⟩ := List.getElem_of_mem hx; exact hI i hi hi
    rw [this]
theorem events_containsFuncB (l : List Ev) (hl : l.length ≤ 9223372036854775807) (g : AV) (hgf : fo g = (True, g)) (p : Ev → Bool) (hg : ∀ x ∈ l, PV Go.Proofs.Tryz.prog g [aEv x] (ab (p x))) :
    PC Go.Proofs.Tryz.prog 43 [aEvs l, g] (ab (l.any p)) := by
  refine PC.enter 9 [.tmp 4] [] Go.Proofs.Tryz.func43 rfl rfl rfl rfl rfl (by simp) (AWp.of ?_); simp only [go_sem]
  repeat ((with_reducible refine an ?_ ?_); focus exact As)
  refine AWp.of ?_; simp only [go_sem, hgf]
  refine (events_indexFuncB l hl g hgf p hg).val.use ?_
  simp only [go_sem]
  repeat ((with_reducible refine an ?_ ?_); focus exact As)
  refine AWp.of ?_; simp only [go_sem]
  refine ret_eq ?_; simp only [go_sem]
  congr 2; exact findIdx_any l p
theorem trace_FaultB (ps : List Pr) (hs : Smh ps) (hb : ∃ p, p < ps.length ∧ procF ps p ≠ 0) : PC Go.Proofs.Tryz.prog 84 [aTr ps] (aFault (faultF ps)) := by
  have hl := hs.procs
  refine PC.enter 66 [.cell 2 66, .cell 3 27] [1, 6, 7, 10, 12] Go.Proofs.Tryz.func84 rfl rfl rfl rfl rfl (by simp) (AWp.of ?_); simp only [go_sem]
  intro b2
  intro b3 h3
  have n23 : ¬ b2 = b3 := by omega
  repeat ((with_reducible refine an ?_ ?_); focus exact As)
  refine AWp.of ?_; simp only [go_sem]
  repeat ((with_reducible refine an ?_ ?_); focus exact As)
  refine (trace_in _ _ _).val.use ?_; simp only [go_sem]
  repeat (first | ((with_reducible refine AWp.ofC ?_ ?_); (focus exact rfl); simp only [go_sem, n23]) | ((with_reducible refine an ?_ ?_); focus exact Au))
  refine ⟨fun h1 => ?_, fun h1 => ?_⟩
  · repeat (first | ((with_reducible refine AWp.ofC ?_ ?_); (focus exact rfl); simp only [go_sem]) | ((with_reducible refine an ?_ ?_); focus exact Au))
    have hf : faultF ps = ((0, 0), 1) := by unfold faultF; rw [if_pos (by simp [h1])]
    rw [hf]
    refine ret_eq ?_
    simp only [go_sem, n23]
  · repeat (first | ((with_reducible refine AWp.ofC ?_ ?_); (focus exact rfl); simp only [go_sem]) | ((with_reducible refine an ?_ ?_); focus exact Au))
    refine AWp.range' ps.length [] [1, 2, 3, 22] (fun k vs L => L = [(b3, .row 27 1 [ai 0] 1), (b2, .row 66 2 [aEid (0, 0)] 1)] ∧ ∀ j, j < k → procF ps j = 0) (by omega) rfl rfl rfl ⟨rfl, by omega⟩ ?_ ?_
    · rintro k vs L' hk - ⟨rfl, hI⟩
      simp only [go_sem]
      repeat ((with_reducible refine an ?_ ?_); focus exact As)
      refine AWp.of ?_; simp only [go_sem]
      repeat (first | ((with_reducible refine AWp.ofC ?_ ?_); (focus exact rfl); simp only [go_sem]) | ((with_reducible refine an ?_ ?_); focus exact Au))
      repeat ((with_reducible refine an ?_ ?_); focus exact As)
      refine (trace_processFaultH ps hs k hk).val.use ?_; simp only [go_sem]
      repeat (first | ((with_reducible refine AWp.ofC ?_ ?_); (focus exact rfl); simp only [go_sem, n23]) | ((with_reducible refine an ?_ ?_); focus exact Au))
      refine ⟨fun h2 => ?_, fun h2 => ?_⟩
      · repeat (first | ((with_reducible refine AWp.ofC ?_ ?_); (focus exact rfl); simp only [go_sem]) | ((with_reducible refine an ?_ ?_); focus exact Au))
        have hf : faultF ps = (((k : Int), 0), procF ps k) := by unfold faultF; rw [if_neg (by simp [h1]), procFirst_hit hk hI h2]
        rw [hf]
        refine ret_eq ?_
        simp only [go_sem, n23]
      · refine ⟨_, List.Sublist.refl _, rfl, fun j hj => ?_⟩
        by_cases e : j = k
        · rw [e]; exact h2
        · exact hI j (by omega)
    · rintro vs L' - ⟨rfl, hI⟩
      obtain ⟨p, hp, h⟩ := hb
      exact absurd (hI p hp) h
theorem ref12_FaultB (ps : List Pr) (hs : Smh ps) (hb : ∃ p, p < ps.length ∧ procF ps p ≠ 0) : PC Go.Proofs.Tryz.prog 53 [aTr ps] (aFault (faultF ps)) := by
  have hl := hs.procs
  refine PC.enter 137 [.cell 2 66, .tmp 3] [1, 11, 15] Go.Proofs.Tryz.func53 rfl rfl rfl rfl rfl (by simp) (AWp.of ?_); simp only [go_sem]
  intro b2
  repeat (first | ((with_reducible refine AWp.ofC ?_ ?_); (focus exact rfl); simp only [go_sem]) | ((with_reducible refine an ?_ ?_); focus exact Au))
  repeat (first | ((with_reducible refine AWp.ofC ?_ ?_); (focus exact rfl); simp only [go_sem]) | ((with_reducible refine an ?_ ?_); focus exact Au))
  refine ⟨fun h1 => ?_, fun h1 => ?_⟩
  · repeat (first | ((with_reducible refine AWp.ofC ?_ ?_); (focus exact rfl); simp only [go_sem]) | ((with_reducible refine an ?_ ?_); focus exact Au))
    have hf : faultF ps = ((0, 0), 1) := by
      unfold faultF
      rw [if_pos]
      unfold inI
      rw [Bool.not_eq_true', ← Bool.not_eq_true, Bool.and_eq_true, decide_eq_true_eq, decide_eq_true_eq]
      omega
    rw [hf]
    refine ret_eq ?_
    simp only [go_sem]
  · intro h1'
    have hin : ¬ ((!inI ps.length 1 8) = true) := by
      unfold inI
      rw [Bool.not_eq_true', ← Bool.not_eq_true, Bool.and_eq_true, decide_eq_true_eq, decide_eq_true_eq]
      omega
    repeat (first | ((with_reducible refine AWp.ofC ?_ ?_); (focus exact rfl); simp only [go_sem]) | ((with_reducible refine an ?_ ?_); focus exact Au))
    refine AWp.block (AWp.count 4 ps.length [] [1, 2] (fun k vs L => L = [(b2, .row 66 2 [aEid (0, 0)] 1)] ∧ ∀ j, j < k → procF ps j = 0) rfl rfl ⟨by simp [aEid], by omega⟩ ?_)
    rintro k vs L hk - ⟨rfl, hI⟩
    simp only [go_sem]
    repeat (first | ((with_reducible refine AWp.ofC ?_ ?_); (focus exact rfl); simp only [go_sem]) | ((with_reducible refine an ?_ ?_); focus exact Au))
    refine ⟨fun h2 => ?_, fun h2 => ?_⟩
    · have hkp : k < ps.length := by omega
      repeat (first | ((with_reducible refine AWp.ofC ?_ ?_); (focus exact rfl); simp only [go_sem]) | ((with_reducible refine an ?_ ?_); focus exact Au))
      repeat ((with_reducible refine an ?_ ?_); focus exact As)
      refine (ref12_headH ps hs k hkp).val.use ?_; simp only [go_sem]
      repeat (first | ((with_reducible refine AWp.ofC ?_ ?_); (focus exact rfl); simp only [go_sem]) | ((with_reducible refine an ?_ ?_); focus exact Au))
      refine ⟨fun h3 => ?_, fun h3 => ?_⟩
      · repeat (first | ((with_reducible refine AWp.ofC ?_ ?_); (focus exact rfl); simp only [go_sem]) | ((with_reducible refine an ?_ ?_); focus exact Au))
        have hf : faultF ps = (((k : Int), 0), procF ps k) := by unfold faultF; rw [if_neg hin, procFirst_hit hkp hI h3]
        rw [hf]
        refine ret_eq ?_
        simp only [go_sem]
      · repeat (first | ((with_reducible refine AWp.ofC ?_ ?_); (focus exact rfl); simp only [go_sem]) | ((with_reducible refine an ?_ ?_); focus exact Au))
        refine ⟨_, List.Sublist.refl _, rfl, fun j hj => ?_⟩
        by_cases e : j = k
        · rw [e]; exact h3
        · exact hI j (by omega)
    · obtain ⟨p, hp, h⟩ := hb
      exact absurd (hI p (by omega)) h
theorem procF_evs {ps : List Pr} {p : Nat} (hp : p < ps.length) (h : 64 < ps[p].evs.length) : procF ps p ≠ 0 := by
  have hpf : procF ps p = if !nameOk ps[p].name || (ps.take p).any (fun y => decide (y.name = ps[p].name)) then 13 else if 8 < ps[p].vars.length then 5 else
      if fstF (varF ps[p].vars) ps[p].vars.length ≠ 0 then fstF (varF ps[p].vars) ps[p].vars.length else if 64 < ps[p].evs.length then 5 else 0 := by
    unfold procF; rw [List.getElem?_eq_getElem hp]
  rw [hpf]
  split
  · decide
  · split
    · decide
    · split
      · assumption
      · first | decide | (rw [if_pos h]; decide)
theorem valid_bad {ps : List Pr} (hb : ∃ p, p < ps.length ∧ procF ps p ≠ 0) : validF ps = false := by
  cases hv : validF ps with
  | false => rfl
  | true =>
    obtain ⟨p, hp, h⟩ := hb
    exact absurd (procF_of_valid hv hp) h
theorem trace_ValidB (ps : List Pr) (hs : Smh ps) (hb : ∃ p, p < ps.length ∧ procF ps p ≠ 0) : PC Go.Proofs.Tryz.prog 45 [aTr ps] (ab (validF ps)) := by
  refine PC.enter 12 [.tmp 2] [1, 3] Go.Proofs.Tryz.func45 rfl rfl rfl rfl rfl (by simp) (AWp.of ?_); simp only [go_sem]
  repeat (first | ((with_reducible refine AWp.ofC ?_ ?_); (focus exact rfl); simp only [go_sem]) | ((with_reducible refine an ?_ ?_); focus exact Au))
  repeat ((with_reducible refine an ?_ ?_); focus exact As)
  refine (trace_FaultB ps hs hb).val.use ?_; simp only [go_sem]
  repeat ((with_reducible refine an ?_ ?_); focus exact As)
  intros
  refine AWp.of ?_; simp only [go_sem]
  repeat (first | ((with_reducible refine AWp.ofC ?_ ?_); (focus exact rfl); simp only [go_sem]) | ((with_reducible refine an ?_ ?_); focus exact Au))
  refine ret_eq ?_; simp only [go_sem]
  rfl
theorem ref12_ValidB (ps : List Pr) (hs : Smh ps) (hb : ∃ p, p < ps.length ∧ procF ps p ≠ 0) : PC Go.Proofs.Tryz.prog 12 [aTr ps] (ab (validF ps)) := by
  refine PC.enter 12 [.tmp 2] [1, 3] Go.Proofs.Tryz.func12 rfl rfl rfl rfl rfl (by simp) (AWp.of ?_); simp only [go_sem]
  repeat (first | ((with_reducible refine AWp.ofC ?_ ?_); (focus exact rfl); simp only [go_sem]) | ((with_reducible refine an ?_ ?_); focus exact Au))
  repeat ((with_reducible refine an ?_ ?_); focus exact As)
  refine (ref12_FaultB ps hs hb).val.use ?_; simp only [go_sem]
  repeat ((with_reducible refine an ?_ ?_); focus exact As)
  intros
  refine AWp.of ?_; simp only [go_sem]
  repeat (first | ((with_reducible refine AWp.ofC ?_ ?_); (focus exact rfl); simp only [go_sem]) | ((with_reducible refine an ?_ ?_); focus exact Au))
  refine ret_eq ?_; simp only [go_sem]
  rfl
end Go.AL
end
section
/- The package conjunctive: the board of a trace and locals, the steps, the answer. No condition. -/
namespace Go.AL
open Go Go.RowKit
set_option maxRecDepth 4000
def anilp : AV := .v (.pointer none)
def okK (E : Elim) (m : Nat) : List AV := (List.range m).map fun q => .sl 1 (okL E q)
end Go.AL
end
section
/- The package conjunctive: what Possibly and Steps return. No condition. -/
namespace Go.AL
open Go Go.RowKit
set_option maxRecDepth 4000
noncomputable def aPossR (ps : List Pr) (ts : List Pd) : AV := if conF ps ts = 0 then .tup [aAns (ansOf (elimOf ps ts)), ai 0] else .tup [aAns noAns, ai (conF ps ts)]
end Go.AL
end
section
/- What certificates say. Plain laws. No condition. -/
namespace Go.AL
open Go Go.RowKit
set_option maxRecDepth 4000
abbrev Spn := Int × Int × Int
def spOk (E : Elim) (now : Nat → Nat) (s : Spn) : Bool := !lostB E now && (decide (0 ≤ s.1) && decide (s.1 < E.n) && decide (s.2.1 = now s.1.toNat) && decide (s.2.1 ≤ s.2.2) && decide (s.2.2 ≤ E.top s.1.toNat))
def spEx (E : Elim) (now : Nat → Nat) (s : Spn) : Bool := (List.range (s.2.2.toNat + 1 - s.2.1.toNat)).all fun j => exB E now s.1.toNat (s.2.1.toNat + j)
def endsG (E : Elim) : List Spn → (Nat → Nat) → Bool
  | [], now => lostB E now
  | s :: r, now => if spOk E now s = true ∧ spEx E now s = true then endsG E r (updN now s.1.toNat (s.2.2.toNat + 1)) else false
/-- A list of counts is a consistent cut at which the locals are true. -/
def satG (ps : List Pr) (E : Elim) (c : List Int) : Bool := isF ps c && (List.range c.length).all fun p => E.ok p (cAt c p).toNat
noncomputable def checkG (ps : List Pr) (ts : List Pd) (a : Ans) : Bool :=
  if conF ps ts = 0 ∧ a.mode = 1 ∧ a.cuts = [] ∧ a.run = [] ∧ a.value = 0 then
    if a.holds = true then decide (a.kind = 1) && decide (a.spans = []) && satG ps (elimOf ps ts) a.cut
    else decide (a.kind = 4) && decide (a.cut = []) && endsG (elimOf ps ts) a.spans fun _ => 0
  else false
section
variable {ps : List Pr} {ts : List Pd}
end
end Go.AL
end
section
/- The package conjunctive: Check. No condition. -/
namespace Go.AL
open Go Go.RowKit
set_option maxRecDepth 4000
theorem cut_Consistent (ps : List Pr) (hs : Sm ps) (c : List Int) : PC Go.Proofs.Tryz.prog 29 [aTr ps, aInts c] (ab (decide (givenF ps [c] [] = 0))) := by
  have hg := cut_given ps hs [c] (by simp) [] (by simp)
  generalize givenF ps [c] [] = G at *
  refine PC.enter 10 [.tmp 4] [2, 7] Go.Proofs.Tryz.func29 rfl rfl rfl rfl rfl (by simp) (AWp.of ?_); simp only [go_sem]
  repeat (first | ((with_reducible refine AWp.ofC ?_ ?_); (focus exact rfl); simp only [go_sem]) | ((with_reducible refine an ?_ ?_); focus exact Au))
  refine (PC.view (Vws.cons (.refl _) (Vws.cons (.refl _) (Vws.cons (.nil 1) .nil))) hg (Own.v _) ?_).val
  simp only [go_sem]
  repeat (first | ((with_reducible refine AWp.ofC ?_ ?_); (focus exact rfl); simp only [go_sem]) | ((with_reducible refine an ?_ ?_); focus exact Au))
  refine ret_eq ?_; simp only [go_sem]
end Go.AL
end
section
/- The reference of layer 37: faults, and which states are excluded. No condition. -/
namespace Go.AL
open Go Go.RowKit
set_option maxRecDepth 4000
end Go.AL
end
section
/- How many steps an elimination has. Plain law. No condition. -/
namespace Go.AL
open Go Go.RowKit
set_option maxRecDepth 4000
end Go.AL
end
section
/- The reference of layer 37: steps of elimination. No condition. -/
namespace Go.AL
open Go Go.RowKit
set_option maxRecDepth 4000
end Go.AL
end
section
/- Whether a cut may be dropped: the package prune and the reference of layer 49. No condition. -/
namespace Go.AL
open Go Go.RowKit
set_option maxRecDepth 4000
def leqF (a b : List Int) : Bool := decide (a.length = b.length) && (List.range a.length).all fun i => decide (a.getD i 0 ≤ b.getD i 0)
theorem leqF_iff {a b : List Int} : leqF a b = true ↔ a.length = b.length ∧ ∀ i, i < a.length → a.getD i 0 ≤ b.getD i 0 := by
  unfold leqF
  rw [Bool.and_eq_true, List.all_eq_true, decide_eq_true_eq]
  exact ⟨fun h => ⟨h.1, fun i hi => of_decide_eq_true (h.2 i (List.mem_range.2 hi))⟩, fun h => ⟨h.1, fun i hi => decide_eq_true (h.2 i (List.mem_range.1 hi))⟩⟩
noncomputable def safeF (ps : List Pr) (ts : List Pd) (c : List Int) : Bool := lostF (elimOf ps ts) || leqF c (cutL ps.length (finF (elimOf ps ts)))
noncomputable def safeE (ps : List Pr) (ts : List Pd) (c : List Int) : Int := if conF ps ts ≠ 0 then conF ps ts else givenF ps [c] []
end Go.AL
end
section
/- The package cuts: the list as one's own, what is deleted of it, lists that are no cuts, Find, Between. No condition. -/
namespace Go.AL
open Go Go.RowKit
set_option maxRecDepth 4000
def OwnS (xs : List (List Int)) (v : AV) (L : AHeap) : Prop :=
  (xs = [] ∧ v = anil ∧ L = []) ∨ ∃ b cap ws, v = .ls b 1 0 xs.length cap ∧ L = [(b, .row 42 1 (xs.map aInts ++ ws) cap)]
theorem OwnS.fo {xs : List (List Int)} {v : AV} {L : AHeap} (h : OwnS xs v L) : AL.fo v = (True, v) := by
  rcases h with ⟨_, rfl, _⟩ | ⟨b, cap, ws, rfl, _⟩ <;> rfl
/-! Deleting. -/
/-! What is no cut. -/
noncomputable def chkE (ps : List Pr) (l : List (List Int)) : Int := if validF ps = true then (if (l.any fun c => !isF ps c) = true then 18 else 0) else 1
end Go.AL
end
section
/- The package cuts: Find, Between. No condition. -/
namespace Go.AL
open Go Go.RowKit
set_option maxRecDepth 4000
def idxF (l : List (List Int)) (c : List Int) : Int := match l.findIdx? fun d => decide (c = d) with | some i => (i : Int) | none => -1
noncomputable def fndE (ps : List Pr) (l : List (List Int)) : Int := if chkE ps l ≠ 0 then chkE ps l else lstE ps
noncomputable def fndI (ps : List Pr) (c : List Int) : Int := if fndE ps [c] = 0 then idxF (cutsF ps) c else 0
noncomputable def btwF (ps : List Pr) (a b : List Int) : List (List Int) := if fndE ps [a, b] = 0 then (cutsF ps).filter fun c => leqF a c && leqF c b else []
end Go.AL
end
section
/- A rewritten tree says at the rest of a cut what the tree says at the cut. Plain laws. No condition. -/
namespace Go.AL
open Go Go.RowKit
set_option maxRecDepth 4000
section
variable {ps : List Pr} {c : List Int}
/-! ### Values -/
variable {j : List Int} {ch : Int → Int → Int}
end
end Go.AL
end
section
/- Detection goes on after dropping. Plain laws. No condition. -/
namespace Go.AL
open Go Go.RowKit
set_option maxRecDepth 4000
section
variable {ps : List Pr} {c : List Int}
/-! ### Cuts of the dropped trace -/
end
end Go.AL
end
section
/- The cuts that contain what was dropped remain: plain laws. No condition. -/
namespace Go.AL
open Go Go.RowKit
set_option maxRecDepth 4000
/-! ### The order of the list of cuts -/
def ordL (a b : List Int) : Prop := a.sum < b.sum ∨ (a.sum = b.sum ∧ cmpL a b < 0)
theorem ordL_irr {a : List Int} (h : ordL a a) : False := by
  rcases h with h | ⟨_, h⟩
  · omega
  · rw [cmpL_irr] at h; omega
theorem cum_ord {ps : List Pr} (hv : validF ps = true) : ∀ n, (cumF ps n).Pairwise ordL ∧ ∀ x ∈ cumF ps n, x.sum < n
  | 0 => ⟨List.Pairwise.nil, fun x hx => by cases hx⟩
  | n + 1 => by
    obtain ⟨h1, h2⟩ := cum_ord hv n
    rw [cumF_succ]
    have hl : ∀ x ∈ levF ps n, x.sum = n := fun x hx => ((mem_levF hv n x).1 hx).2
    refine ⟨List.pairwise_append.2 ⟨h1, ?_, fun x hx y hy => .inl (by rw [hl y hy]; exact h2 x hx)⟩, fun x hx => ?_⟩
    · refine (asc_lev hv n).imp_of_mem fun {a b} ha hb hab => .inr ⟨by rw [hl a ha, hl b hb], hab⟩
    · rcases List.mem_append.1 hx with hx | hx
      · have := h2 x hx; omega
      · have := hl x hx; omega
theorem cuts_ord {ps : List Pr} (hv : validF ps = true) : (cutsF ps).Pairwise ordL := (cum_ord hv _).1
theorem isF_given {ps : List Pr} (hv : validF ps = true) {c : List Int} : givenF ps [c] [] = 0 ↔ isF ps c = true := by
  rw [givenL, isF_iff]; simp [hv]
/-! ### Dropping twice -/
end Go.AL
end
section
/- The lattice of cuts, plainly. No condition. -/
namespace Go.AL
open Go Go.RowKit
set_option maxRecDepth 4000
def meetL (c d : List Int) : List Int := List.zipWith (fun x y => if y < x then y else x) c d
theorem leq_iff_at {a b : List Int} : leqF a b = true ↔ a.length = b.length ∧ ∀ p : Nat, p < a.length → cAt a p ≤ cAt b p := leqF_iff
theorem leq_refl (a : List Int) : leqF a a = true := leq_iff_at.2 ⟨rfl, fun _ _ => Int.le_refl _⟩
theorem leq_sum : ∀ {a b : List Int}, leqF a b = true → a.sum ≤ b.sum ∧ (a.sum = b.sum → a = b)
  | [], [], _ => ⟨Int.le_refl _, fun _ => rfl⟩
  | [], _ :: _, h => by have := (leqF_iff.1 h).1; simp at this
  | _ :: _, [], h => by have := (leqF_iff.1 h).1; simp at this
  | x :: a, y :: b, h => by
    obtain ⟨h1, h2⟩ := leqF_iff.1 h
    have h0 : x ≤ y := by simpa using h2 0 (by simp)
    obtain ⟨i1, i2⟩ := leq_sum (a := a) (b := b) (leqF_iff.2 ⟨by simpa using h1, fun i hi => by have := h2 (i + 1) (by simpa using hi); simpa using this⟩)
    rw [List.sum_cons, List.sum_cons]
    refine ⟨by omega, fun h => ?_⟩
    rw [i2 (by omega), show x = y by omega]
section
variable {A : List (List Int)} (hA : A.Pairwise ordL)
include hA
theorem ord_get {i j : Nat} (hi : i < A.length) (hj : j < A.length) (h : i < j) : ordL A[i] A[j] := List.pairwise_iff_getElem.1 hA i j hi hj h
theorem ord_inj {i j : Nat} (hi : i < A.length) (hj : j < A.length) (h : A[i] = A[j]) : i = j := by
  rcases Nat.lt_trichotomy i j with h1 | h1 | h1
  · have := ord_get hA hi hj h1; rw [h] at this; exact (ordL_irr this).elim
  · exact h1
  · have := ord_get hA hj hi h1; rw [h] at this; exact (ordL_irr this).elim
theorem idx_get {i : Nat} (hi : i < A.length) : idxF A A[i] = i := by
  have : A.findIdx? (fun d => decide (A[i] = d)) = some i := by
    rw [List.findIdx?_eq_some_iff_getElem]
    refine ⟨hi, decide_eq_true rfl, fun j hj h => ?_⟩
    have := ord_inj hA hi (by omega) (of_decide_eq_true h)
    omega
  unfold idxF
  rw [this]
theorem idx_leq {i j : Nat} (hi : i < A.length) (hj : j < A.length) (h : leqF A[i] A[j] = true) : i ≤ j := by
  rcases Nat.lt_or_ge j i with h1 | h1
  · exfalso
    obtain ⟨s1, s2⟩ := leq_sum h
    have ho := ord_get hA hj hi h1
    rcases ho with ho | ⟨e, ho⟩
    · omega
    · have := s2 e.symm
      rw [this, cmpL_irr] at ho
      omega
  · exact h1
end
structure LatD (ps : List Pr) (A : List (List Int)) (i j : Nat) (a b u d : List Int) : Prop where
  is : isF ps a = true ∧ isF ps b = true ∧ isF ps u = true ∧ isF ps d = true
  bef : i < j → befF a b = true
  ia : idxF A a = i
  iu : ∃ m : Nat, idxF A u = m ∧ i ≤ m ∧ j ≤ m
  id : ∃ m : Nat, idxF A d = m ∧ m ≤ i ∧ m ≤ j
  btw : ∀ c, c = a ∨ c = b ∨ c = u ∨ c = d → c ∈ A.filter fun x => leqF d x && leqF x u
  sum : 0 ≤ a.sum ∧ a.sum ≤ off ps ps.length
  lev : a ∈ levF ps a.sum.toNat
  zero : a.sum = 0 → i = 0 ∧ (levF ps a.sum.toNat).length = 1
  low : 0 < a.sum → ∃ x ∈ levF ps (a.sum - 1).toNat, x.length = a.length ∧ leqF x a = true
end Go.AL
end
section
/- Runs, plainly: the least walks of cuts. No condition. -/
namespace Go.AL
open Go Go.RowKit
set_option maxRecDepth 4000
theorem argmin (f : Nat → Nat) (P : Nat → Prop) : ∀ n, (∃ p, p < n ∧ P p) → ∃ p, p < n ∧ P p ∧ ∀ q, q < n → P q → f p ≤ f q
  | 0, ⟨_, h, _⟩ => by omega
  | n + 1, ⟨p, hp, hP⟩ => by
    by_cases hn : ∃ p, p < n ∧ P p
    · obtain ⟨a, a1, a2, a3⟩ := argmin f P n hn
      by_cases hb : P n ∧ f n < f a
      · refine ⟨n, by omega, hb.1, fun q hq hQ => ?_⟩
        by_cases e : q = n
        · subst e; exact Nat.le_refl _
        · have := a3 q (by omega) hQ; omega
      · refine ⟨a, by omega, a2, fun q hq hQ => ?_⟩
        by_cases e : q = n
        · subst e
          have : ¬ f q < f a := fun h => hb ⟨hQ, h⟩
          omega
        · exact a3 q (by omega) hQ
    · have e : p = n := by
        by_cases e : p = n
        · exact e
        · exact absurd ⟨p, by omega, hP⟩ hn
      subst e
      refine ⟨p, by omega, hP, fun q hq hQ => ?_⟩
      by_cases e : q = p
      · subst e; exact Nat.le_refl _
      · exact absurd ⟨q, by omega, hQ⟩ hn
/-- Below a greater cut some event may be taken that it has. -/
theorem add_below {ps : List Pr} (hv : validF ps = true) {c d : List Int} (hc : isF ps c = true) (hd : isF ps d = true) (_hle : ∀ q : Nat, q < ps.length → cAt c q ≤ cAt d q) (hne : ∃ q : Nat, q < ps.length ∧ cAt c q < cAt d q) :
    ∃ q : Nat, q < ps.length ∧ cAt c q < cAt d q ∧ rdyF ps c q = true := by
  obtain ⟨hl, hr, hcl⟩ := isF_iff.1 hc
  obtain ⟨dl, dr, dcl⟩ := isF_iff.1 hd
  have hm := (valid_parts hv).2.2
  have hrr := (inRange_iff hl).1 hr
  have drr := (inRange_iff dl).1 dr
  obtain ⟨p, hp, hp0, hmin⟩ := argmin (fun p => anc ps ((p : Int), cAt c p + 1)) (fun p => cAt c p < cAt d p) ps.length hne
  have h1 := hrr p hp
  have h2 := drr p hp
  have hi : (cAt c p).toNat < ps[p].evs.length := by omega
  have hci : cAt c p = ((cAt c p).toNat : Nat) := by omega
  refine ⟨p, hp, hp0, ?_⟩
  unfold rdyF
  rw [decide_eq_true_eq]
  refine ⟨by rw [nev_get hp]; omega, (stp_iff hv hc hp hi hci).2 ?_⟩
  unfold needE
  split
  · rename_i hk
    obtain ⟨s, hs, j, hj, e, _, _⟩ := sndr_some (recv_sndr hm hp hi hk)
    have hn := nx_send hm hp hi hk
    have hcd := closed_iff.1 dcl p hp _ hi hk (by omega)
    rw [e] at hn hcd ⊢
    simp only at hcd ⊢
    by_cases hle2 : (j : Int) + 1 ≤ cAt c s
    · exact hle2
    · exfalso
      have h3 := hmin s hs (by omega)
      have h4 := anc_lt hv ⟨s, hs, j, hj, rfl⟩ (.single hn)
      have h5 := hrr s hs
      have h6 := anc_line hv hs (i := (cAt c s).toNat) (j := j) (by omega) hj
      have h7 : (((cAt c s).toNat : Nat) : Int) = cAt c s := by omega
      have h8 : (((cAt c p).toNat : Nat) : Int) = cAt c p := by omega
      rw [h7] at h6
      rw [h8] at h4
      omega
  · have := (hrr 0 (by omega)).1
    simpa using this
theorem rdy_is {ps : List Pr} {c : List Int} {p : Nat} (h : rdyF ps c p = true) : isF ps (stpC c p) = true := (of_decide_eq_true h).2
theorem find_congr {α : Type} {f g : α → Bool} : ∀ {l : List α}, (∀ x ∈ l, f x = g x) → l.find? f = l.find? g
  | [], _ => rfl
  | x :: l, h => by
    rw [List.find?_cons, List.find?_cons, h x (by simp), find_congr fun y hy => h y (List.mem_cons_of_mem _ hy)]
/-- The least process that may go on to a permitted cut. -/
def firstP (ps : List Pr) (perm : List Int → Bool) (c : List Int) : Option Nat := (List.range c.length).find? fun p => rdyF ps c p && perm (stpC c p)
theorem firstP_some {ps : List Pr} {f : List Int → Bool} {c : List Int} {p : Nat} (h : firstP ps f c = some p) : p < c.length ∧ rdyF ps c p = true ∧ f (stpC c p) = true := by
  have h1 := List.find?_some h
  have h2 := List.mem_of_find?_eq_some h
  rw [Bool.and_eq_true] at h1
  exact ⟨List.mem_range.1 h2, h1.1, h1.2⟩
theorem firstP_none {ps : List Pr} {f : List Int → Bool} {c : List Int} (h : firstP ps f c = none) {p : Nat} (hp : p < c.length) (hr : rdyF ps c p = true) : f (stpC c p) = false := by
  have := List.find?_eq_none.1 h p (List.mem_range.2 hp)
  rw [hr, Bool.true_and] at this
  simpa using this
/-- The next n cuts of the least walk through permitted cuts. -/
def wlkR (ps : List Pr) (perm : List Int → Bool) : Nat → List Int → Option (List (List Int))
  | 0, _ => some []
  | n + 1, c => match firstP ps perm c with
    | none => none
    | some p => (wlkR ps perm n (stpC c p)).map (stpC c p :: ·)
theorem wlkR_succ (ps : List Pr) (perm : List Int → Bool) (n : Nat) (c : List Int) : wlkR ps perm (n + 1) c = match firstP ps perm c with
    | none => none
    | some p => (wlkR ps perm n (stpC c p)).map (stpC c p :: ·) := rfl
theorem leq_stp {ps : List Pr} {c d : List Int} (hc : c.length = ps.length) (h : ∀ q : Nat, q < ps.length → cAt c q ≤ cAt d q) (hd : d.length = ps.length) {p : Nat} (hp : cAt c p < cAt d p) : ∀ q : Nat, q < ps.length → cAt (stpC c p) q ≤ cAt d q := fun q hq => by
  rw [cAt_stp (by omega)]
  split
  · rename_i e; subst e; omega
  · exact h q hq
theorem leq_at {a b : List Int} {n : Nat} (ha : a.length = n) (hb : b.length = n) : leqF a b = true ↔ ∀ q : Nat, q < n → cAt a q ≤ cAt b q := by
  rw [leq_iff_at, ha, hb]
  exact ⟨fun h => h.2, fun h => ⟨rfl, h⟩⟩
theorem stp_len (c : List Int) (p : Nat) : (stpC c p).length = c.length := by unfold stpC; rw [List.length_set]
theorem leq_full {ps : List Pr} {c : List Int} (h : isF ps c = true) : leqF c (fullC ps) = true := by
  obtain ⟨hl, hr, _⟩ := isF_iff.1 h
  refine (leq_at hl (by unfold fullC; rw [List.length_map])).2 fun q hq => ?_
  rw [fullC_at hq]
  exact ((inRange_iff hl).1 hr q hq).2
theorem full_of_sum {ps : List Pr} {c : List Int} (h : isF ps c = true) : c = fullC ps ↔ c.sum = off ps ps.length := by
  have h1 := leq_sum (leq_full h)
  rw [fullC_sum] at h1
  exact ⟨fun e => by rw [e, fullC_sum], h1.2⟩
section
variable {ps : List Pr} (hv : validF ps = true)
include hv
/-- Towards a greater cut one always may go on. -/
theorem first_to {c to : List Int} (hc : isF ps c = true) (ht : isF ps to = true) (hle : leqF c to = true) (hne : c.sum < to.sum) : ∃ p, firstP ps (fun d => leqF d to) c = some p ∧ p < ps.length ∧ isF ps (stpC c p) = true ∧ leqF (stpC c p) to = true := by
  have hl := (isF_iff.1 hc).1
  have tl := (isF_iff.1 ht).1
  have h1 := (leq_at hl tl).1 hle
  have hex : ∃ q : Nat, q < ps.length ∧ cAt c q < cAt to q := by
    apply Classical.byContradiction
    intro hn
    have : c = to := by
      apply List.ext_getElem (by omega)
      intro i g1 g2
      rw [← cAt_nat g1, ← cAt_nat g2]
      have := h1 i (by omega)
      have : ¬ cAt c i < cAt to i := fun h => hn ⟨i, by omega, h⟩
      omega
    rw [this] at hne; omega
  obtain ⟨q, hq, hq1, hq2⟩ := add_below hv hc ht h1 hex
  have hlq : leqF (stpC c q) to = true := (leq_at (by rw [stp_len]; exact hl) tl).2 (leq_stp hl h1 tl hq1)
  cases hf : firstP ps (fun d => leqF d to) c with
  | none =>
    have := firstP_none hf (p := q) (by omega) hq2
    rw [hlq] at this; cases this
  | some p =>
    obtain ⟨a1, a2, a3⟩ := firstP_some hf
    exact ⟨p, rfl, by omega, rdy_is a2, a3⟩
end
end Go.AL
end
section
/- Runs, plainly: single steps, and which lists of cuts are runs. No condition. -/
namespace Go.AL
open Go Go.RowKit
set_option maxRecDepth 4000
/-- The reference's step, as far as to the number k: none, if it has come to its end. -/
def stepG (a b : List Int) : Nat → Option Int
  | 0 => some (-1)
  | k + 1 => match stepG a b k with
    | none => none
    | some p => if cAt a k = cAt b k then some p else if 0 ≤ p ∨ ¬ cAt b k = cAt a k + 1 then none else some k
def stepF (a b : List Int) : Int := if a.length = b.length then (stepG a b a.length).getD (-1) else -1
theorem stepG_some {a b : List Int} : ∀ {k : Nat} {z : Int}, stepG a b k = some z ↔ (z = -1 ∧ ∀ i : Nat, i < k → cAt a i = cAt b i) ∨ ∃ q : Nat, q < k ∧ z = q ∧ cAt b q = cAt a q + 1 ∧ ∀ i : Nat, i < k → i ≠ q → cAt a i = cAt b i
  | 0, z => by
    constructor
    · intro h; exact .inl ⟨(Option.some.inj h).symm, fun i hi => by omega⟩
    · rintro (⟨h, _⟩ | ⟨q, h, _⟩)
      · rw [h]; rfl
      · omega
  | k + 1, z => by
    have e : stepG a b (k + 1) = match stepG a b k with
      | none => none
      | some p => if cAt a k = cAt b k then some p else if 0 ≤ p ∨ ¬ cAt b k = cAt a k + 1 then none else some k := rfl
    rw [e]
    constructor
    · intro h
      cases hs : stepG a b k with
      | none => rw [hs] at h; cases h
      | some p =>
        rw [hs] at h
        simp only at h
        have ih := stepG_some.1 hs
        by_cases h1 : cAt a k = cAt b k
        · rw [if_pos h1] at h
          cases h
          rcases ih with ⟨i1, i2⟩ | ⟨q, i1, i2, i3, i4⟩
          · exact .inl ⟨i1, fun i hi => by
              by_cases e : i = k
              · subst e; exact h1
              · exact i2 i (by omega)⟩
          · exact .inr ⟨q, by omega, i2, i3, fun i hi hn => by
              by_cases e : i = k
              · subst e; exact h1
              · exact i4 i (by omega) hn⟩
        · rw [if_neg h1] at h
          split at h
          · cases h
          · rename_i h2
            cases h
            rcases ih with ⟨i1, i2⟩ | ⟨q, i1, i2, i3, i4⟩
            · refine .inr ⟨k, by omega, rfl, ?_, fun i hi hn => i2 i (by omega)⟩
              apply Classical.byContradiction; intro h3; exact h2 (.inr h3)
            · exact absurd (.inl (by omega)) h2
    · rintro (⟨i1, i2⟩ | ⟨q, i1, i2, i3, i4⟩)
      · rw [stepG_some.2 (.inl ⟨i1, fun i hi => i2 i (by omega)⟩)]
        simp only
        rw [if_pos (i2 k (by omega))]
      · by_cases e : q = k
        · subst e
          rw [stepG_some.2 (.inl ⟨rfl, fun i hi => i4 i (by omega) (by omega)⟩)]
          simp only
          rw [if_neg (by omega), if_neg (by omega), i2]
        · rw [stepG_some.2 (.inr ⟨q, by omega, i2, i3, fun i hi hn => i4 i (by omega) hn⟩)]
          simp only
          rw [if_pos (i4 k (by omega) (by omega))]
theorem stepF_iff {a b : List Int} {q : Nat} : stepF a b = q ↔ q < a.length ∧ b = stpC a q := by
  unfold stepF
  constructor
  · intro h
    split at h
    · rename_i hl
      cases hs : stepG a b a.length with
      | none => rw [hs] at h; simp at h
      | some z =>
        rw [hs] at h
        simp only [Option.getD_some] at h
        subst h
        rcases stepG_some.1 hs with ⟨i1, _⟩ | ⟨p, i1, i2, i3, i4⟩
        · omega
        · have : p = q := by omega
          subst this
          refine ⟨i1, ?_⟩
          apply List.ext_getElem (by rw [stp_len]; omega)
          intro i g1 g2
          rw [← cAt_nat g1, ← cAt_nat g2, cAt_stp (by omega)]
          split
          · rename_i e; subst e; exact i3
          · rename_i e; exact (i4 i (by omega) fun h => e h.symm).symm
    · omega
  · rintro ⟨hq, rfl⟩
    rw [if_pos (stp_len a q).symm, stepG_some.2 (.inr ⟨q, hq, rfl, ?_, ?_⟩)]
    · rfl
    · rw [cAt_stp hq, if_pos rfl]
    · intro i hi hn
      rw [cAt_stp hi, if_neg (fun e => hn e.symm)]
theorem stepF_range (a b : List Int) : stepF a b = -1 ∨ ∃ q : Nat, stepF a b = q := by
  unfold stepF
  split
  · cases hs : stepG a b a.length with
    | none => exact .inl rfl
    | some z =>
      rcases stepG_some.1 hs with ⟨i1, _⟩ | ⟨p, _, i2, _⟩
      · exact .inl i1
      · exact .inr ⟨p, i2⟩
  · exact .inl rfl
/-- The step that the program finds. -/
def stpP (ps : List Pr) (a b : List Int) : Option Nat := (List.range ps.length).find? fun p => rdyF ps a p && decide (b = stpC a p)
theorem stpC_inj {a : List Int} {p q : Nat} (hp : p < a.length) (_hq : q < a.length) (h : stpC a p = stpC a q) : p = q := by
  have h1 : cAt (stpC a p) p = cAt (stpC a q) p := by rw [h]
  rw [cAt_stp hp, cAt_stp hp, if_pos rfl] at h1
  split at h1
  · rename_i e; exact e.symm
  · omega
theorem stpP_some {ps : List Pr} {a b : List Int} (ha : a.length = ps.length) {p : Nat} : stpP ps a b = some p ↔ p < ps.length ∧ rdyF ps a p = true ∧ b = stpC a p := by
  constructor
  · intro h
    have h1 := List.find?_some h
    have h2 := List.mem_of_find?_eq_some h
    rw [Bool.and_eq_true, decide_eq_true_eq] at h1
    exact ⟨List.mem_range.1 h2, h1.1, h1.2⟩
  · rintro ⟨h1, h2, h3⟩
    cases hf : stpP ps a b with
    | none =>
      have := List.find?_eq_none.1 hf p (List.mem_range.2 h1)
      rw [h2, decide_eq_true h3] at this
      simp at this
    | some q =>
      have g1 := List.find?_some hf
      have g2 := List.mem_range.1 (List.mem_of_find?_eq_some hf)
      rw [Bool.and_eq_true, decide_eq_true_eq] at g1
      rw [stpC_inj (a := a) (by omega) (by omega) (g1.2.symm.trans h3)]
theorem stpP_step {ps : List Pr} {a b : List Int} (ha : isF ps a = true) : stpP ps a b = if isF ps b = true ∧ 0 ≤ stepF a b then some (stepF a b).toNat else none := by
  have hl := (isF_iff.1 ha).1
  split
  · rename_i h
    rcases stepF_range a b with e | ⟨q, e⟩
    · rw [e] at h; exact absurd h.2 (by decide)
    · rw [e]
      obtain ⟨h1, h2⟩ := stepF_iff.1 e
      refine (stpP_some hl).2 ⟨by omega, ?_, h2⟩
      have e2 : ((q : Int)).toNat = q := by omega
      rw [e2]
      unfold rdyF
      rw [decide_eq_true_eq, ← h2]
      refine ⟨?_, h.1⟩
      obtain ⟨bl, br, _⟩ := isF_iff.1 h.1
      have := (inRange_iff bl).1 br q (by omega)
      have e3 : cAt b q = cAt a q + 1 := by rw [h2, cAt_stp h1, if_pos rfl]
      rw [nev_get (by omega)]; omega
  · rename_i h
    cases hf : stpP ps a b with
    | none => rfl
    | some p =>
      obtain ⟨g1, g2, g3⟩ := (stpP_some hl).1 hf
      exact absurd ⟨by rw [g3]; exact rdy_is g2, by rw [stepF_iff.2 ⟨by omega, g3⟩]; omega⟩ h
/-- The processes of the steps from a on. -/
def stpsG (ps : List Pr) : List Int → List (List Int) → Option (List Nat)
  | _, [] => some []
  | a, b :: r => match stpP ps a b with
    | none => none
    | some p => (stpsG ps b r).map (p :: ·)
def zeroC (ps : List Pr) : List Int := List.replicate ps.length 0
/-- The steps of a list of cuts, if it is a run. -/
def stpsF (ps : List Pr) : List (List Int) → Option (List Nat)
  | [] => none
  | a :: r => if a = zeroC ps ∧ (a :: r).getLast? = some (fullC ps) then stpsG ps a r else none
/-- Whether the cuts behind a follow by single steps. -/
def chnF (ps : List Pr) : List Int → List (List Int) → Bool
  | _, [] => true
  | a, b :: r => (isF ps b && decide (0 ≤ stepF a b)) && chnF ps b r
def isRunF (ps : List Pr) : List (List Int) → Bool
  | [] => false
  | a :: r => decide (a = zeroC ps ∧ (a :: r).getLast? = some (fullC ps)) && chnF ps a r
theorem stpsG_chn {ps : List Pr} : ∀ {r : List (List Int)} {a : List Int}, isF ps a = true → (stpsG ps a r).isSome = chnF ps a r
  | [], _, _ => rfl
  | b :: r, a, ha => by
    have e : stpsG ps a (b :: r) = match stpP ps a b with
      | none => none
      | some p => (stpsG ps b r).map (p :: ·) := rfl
    have e2 : chnF ps a (b :: r) = ((isF ps b && decide (0 ≤ stepF a b)) && chnF ps b r) := rfl
    rw [e, e2, stpP_step ha]
    by_cases h : isF ps b = true ∧ 0 ≤ stepF a b
    · rw [if_pos h]
      simp only
      rw [Option.isSome_map, stpsG_chn h.1, h.1, decide_eq_true h.2]
      rfl
    · rw [if_neg h]
      cases hb : isF ps b with
      | false => rfl
      | true =>
        have : ¬ 0 ≤ stepF a b := fun h2 => h ⟨hb, h2⟩
        rw [decide_eq_false this]; rfl
theorem zeroC_is (ps : List Pr) : isF ps (zeroC ps) = true := isF_zero
theorem stpsF_run {ps : List Pr} {r : List (List Int)} : (stpsF ps r).isSome = isRunF ps r := by
  cases r with
  | nil => rfl
  | cons a r =>
    show (if a = zeroC ps ∧ (a :: r).getLast? = some (fullC ps) then stpsG ps a r else none).isSome = (decide (a = zeroC ps ∧ (a :: r).getLast? = some (fullC ps)) && chnF ps a r)
    by_cases h : a = zeroC ps ∧ (a :: r).getLast? = some (fullC ps)
    · rw [if_pos h, decide_eq_true h, Bool.true_and]
      exact stpsG_chn (by rw [h.1]; exact zeroC_is ps)
    · rw [if_neg h, decide_eq_false h]; rfl
/-- The events of steps: by the program, and by the reference. -/
def evtG : List Int → List (List Int) → List Eid
  | _, [] => []
  | a, b :: r => (stepF a b, cAt b (stepF a b)) :: evtG b r
def evtP : List (List Int) → List Nat → List Eid
  | a :: r, p :: l => ((p : Int), cAt a p + 1) :: evtP r l
  | _, _ => []
/-- The cuts behind c that come by events. -/
def ofR (ps : List Pr) : List Int → List Eid → Option (List (List Int))
  | _, [] => some []
  | c, x :: l => if (0 ≤ x.1 ∧ x.1 < ps.length) ∧ rdyF ps c x.1.toNat = true ∧ x.2 = cAt c x.1 + 1 then (ofR ps (stpC c x.1.toNat) l).map (stpC c x.1.toNat :: ·) else none
def ofF (ps : List Pr) (l : List Eid) : Option (List (List Int)) := match ofR ps (zeroC ps) l with
  | none => none
  | some R => if (zeroC ps :: R).getLast? = some (fullC ps) then some (zeroC ps :: R) else none
end Go.AL
end
section
/- Runs, plainly: how many there are, and from which cuts the end is reached. No condition. -/
namespace Go.AL
open Go Go.RowKit
set_option maxRecDepth 4000
/-- The processes below k that may go on. -/
def enF (ps : List Pr) (c : List Int) (k : Nat) : List Nat := (List.range k).filter (rdyF ps c)
theorem enF_succ (ps : List Pr) (c : List Int) (k : Nat) : enF ps c (k + 1) = enF ps c k ++ if rdyF ps c k = true then [k] else [] := by
  unfold enF
  rw [List.range_succ, List.filter_append, List.filter_cons]
  split <;> rfl
theorem mem_enF {ps : List Pr} {c : List Int} {k p : Nat} : p ∈ enF ps c k ↔ p < k ∧ rdyF ps c p = true := by unfold enF; rw [List.mem_filter, List.mem_range]
theorem enF_len (ps : List Pr) (c : List Int) (k : Nat) : (enF ps c k).length ≤ k := by
  have := List.length_filter_le (rdyF ps c) (List.range k)
  rw [List.length_range] at this; exact this
/-- In how many ways one gets from c to the end, in n steps. -/
def wayT (ps : List Pr) : Nat → List Int → Nat
  | 0, _ => 1
  | n + 1, c => ((enF ps c c.length).map fun p => wayT ps n (stpC c p)).sum
def wayV (ps : List Pr) (c : List Int) : Nat := wayT ps (off ps ps.length - c.sum.toNat) c
theorem en_sum {ps : List Pr} {c : List Int} (hc : isF ps c = true) {k p : Nat} (hk : k ≤ c.length) (hp : p ∈ enF ps c k) : isF ps (stpC c p) = true ∧ (stpC c p).sum = c.sum + 1 ∧ c.sum < off ps ps.length ∧ 0 ≤ c.sum := by
  obtain ⟨h1, h2⟩ := mem_enF.1 hp
  have h3 := rdy_is h2
  have h4 : (stpC c p).sum = c.sum + 1 := sum_stpC (by omega)
  have h5 := sum_le_off h3
  have h6 := sum_nonneg c (isF_nonneg hc)
  exact ⟨h3, h4, by omega, h6⟩
theorem map_congr' {α β : Type} {f g : α → β} {l : List α} (h : ∀ x ∈ l, f x = g x) : l.map f = l.map g := List.map_congr_left h
theorem wayV_full {ps : List Pr} {c : List Int} (h : c.sum = off ps ps.length) : wayV ps c = 1 := by
  unfold wayV
  rw [h, show off ps ps.length - ((off ps ps.length : Nat) : Int).toNat = 0 by omega]
  rfl
theorem wayV_stp {ps : List Pr} {c : List Int} (hc : isF ps c = true) (h : c.sum < off ps ps.length) : wayV ps c = ((enF ps c c.length).map fun p => wayV ps (stpC c p)).sum := by
  have h6 := sum_nonneg c (isF_nonneg hc)
  have e : off ps ps.length - c.sum.toNat = (off ps ps.length - (c.sum.toNat + 1)) + 1 := by omega
  unfold wayV
  rw [e]
  show ((enF ps c c.length).map fun p => wayT ps _ (stpC c p)).sum = _
  congr 1
  refine map_congr' fun p hp => ?_
  obtain ⟨_, h4, _, _⟩ := en_sum hc (Nat.le_refl _) hp
  rw [h4, show (c.sum + 1).toNat = c.sum.toNat + 1 by omega]
/-! ### The reference counts from the beginning -/
def addA (A : Nat → Nat) (j x : Nat) : Nat → Nat := fun k => if k = j then A k + x else A k
def idxN (l : List (List Int)) (c : List Int) : Nat := (idxF l c).toNat
def prcT (_ps : List Pr) (l : List (List Int)) (i : Nat) (A : Nat → Nat) (E : List Nat) : Nat → Nat := E.foldl (fun B p => addA B (idxN l (stpC (l.getD i []) p)) (B i)) A
def fwdA (ps : List Pr) (l : List (List Int)) : Nat → Nat → Nat
  | 0 => fun k => if k = 0 then 1 else 0
  | i + 1 => prcT ps l i (fwdA ps l i) (enF ps (l.getD i []) (l.getD i []).length)
def pot (ps : List Pr) (l : List (List Int)) (A : Nat → Nat) (i m : Nat) : Nat := ((List.range' i m).map fun k => A k * wayV ps (l.getD k [])).sum
section
variable {ps : List Pr} (hv : validF ps = true) {l : List (List Int)} (hl : l = cutsF ps)
include hv hl
theorem idx_step {i : Nat} (hi : i < l.length) {p : Nat} (hp : p ∈ enF ps l[i] l[i].length) : i < idxN l (stpC l[i] p) ∧ ∃ h : idxN l (stpC l[i] p) < l.length, l[idxN l (stpC l[i] p)] = stpC l[i] p := by
  have ho : l.Pairwise ordL := by rw [hl]; exact cuts_ord hv
  have hm : ∀ c, c ∈ l ↔ isF ps c = true := fun c => by rw [hl]; exact mem_cutsF hv
  obtain ⟨h1, h2, _, _⟩ := en_sum ((hm _).1 (List.getElem_mem hi)) (Nat.le_refl _) hp
  obtain ⟨j, hj, e⟩ := List.getElem_of_mem ((hm _).2 h1)
  have hx := idx_get ho hj
  rw [e] at hx
  have hj2 : idxN l (stpC l[i] p) = j := by unfold idxN; rw [hx]; rfl
  rw [hj2]
  refine ⟨?_, hj, e⟩
  rcases Nat.lt_or_ge i j with h | h
  · exact h
  · exfalso
    rcases Nat.lt_or_ge j i with h3 | h3
    · rcases ord_get ho hj hi h3 with h4 | ⟨h4, _⟩
      · rw [e] at h4; omega
      · rw [e] at h4; omega
    · have : i = j := by omega
      subst this
      have := congrArg List.sum e
      omega
theorem lst_len0 : 0 < l.length := by
  have : zeroC ps ∈ l := by rw [hl]; exact (mem_cutsF hv).2 (zeroC_is ps)
  exact List.length_pos_of_mem this
theorem lst_first : l.getD 0 [] = zeroC ps := by
  have ho : l.Pairwise ordL := by rw [hl]; exact cuts_ord hv
  have hm : ∀ c, c ∈ l ↔ isF ps c = true := fun c => by rw [hl]; exact mem_cutsF hv
  have h0 := lst_len0 hv hl
  rw [List.getD_eq_getElem?_getD, List.getElem?_eq_getElem h0]
  obtain ⟨j, hj, e⟩ := List.getElem_of_mem ((hm _).2 (zeroC_is ps))
  show l[0] = zeroC ps
  rcases Nat.eq_zero_or_pos j with h | h
  · subst h; exact e
  · exfalso
    have hs := sum_nonneg l[0] (isF_nonneg ((hm _).1 (List.getElem_mem h0)))
    have hz : (zeroC ps).sum = 0 := by unfold zeroC; simp
    have hle : leqF (zeroC ps) l[0] = true := by
      have hl0 := (isF_iff.1 ((hm _).1 (List.getElem_mem h0))).1
      refine (leq_at (by unfold zeroC; simp) hl0).2 fun q hq => ?_
      have : cAt (zeroC ps) q = 0 := by unfold zeroC; rw [cAt_nat (by simp; exact hq)]; simp
      rw [this, cAt_nat (by omega)]
      exact isF_nonneg ((hm _).1 (List.getElem_mem h0)) _ (List.getElem_mem _)
    have := idx_leq ho hj h0 (by rw [e]; exact hle)
    omega
theorem lst_last : l.getD (l.length - 1) [] = fullC ps := by
  have ho : l.Pairwise ordL := by rw [hl]; exact cuts_ord hv
  have hm : ∀ c, c ∈ l ↔ isF ps c = true := fun c => by rw [hl]; exact mem_cutsF hv
  have h0 := lst_len0 hv hl
  have h1 : l.length - 1 < l.length := by omega
  rw [List.getD_eq_getElem?_getD, List.getElem?_eq_getElem h1]
  obtain ⟨j, hj, e⟩ := List.getElem_of_mem ((hm _).2 (fullC_is hv))
  show l[l.length - 1] = fullC ps
  have := idx_leq ho h1 hj (by rw [e]; exact leq_full ((hm _).1 (List.getElem_mem h1)))
  have hj2 : j = l.length - 1 := by omega
  subst hj2; exact e
end
/-! ### From which cuts the end is reached -/
def opnT (ps : List Pr) (bad : List Int → Bool) : Nat → List Int → Bool
  | 0, c => !bad c
  | n + 1, c => !bad c && (enF ps c c.length).any fun p => opnT ps bad n (stpC c p)
def opnV (ps : List Pr) (bad : List Int → Bool) (c : List Int) : Bool := opnT ps bad (off ps ps.length - c.sum.toNat) c
theorem opnV_full {ps : List Pr} {bad : List Int → Bool} {c : List Int} (h : c.sum = off ps ps.length) : opnV ps bad c = !bad c := by
  unfold opnV
  rw [h, show off ps ps.length - ((off ps ps.length : Nat) : Int).toNat = 0 by omega]
  rfl
theorem any_congr' {α : Type} {f g : α → Bool} : ∀ {l : List α}, (∀ x ∈ l, f x = g x) → l.any f = l.any g
  | [], _ => rfl
  | x :: l, h => by rw [List.any_cons, List.any_cons, h x (by simp), any_congr' fun y hy => h y (List.mem_cons_of_mem _ hy)]
theorem opnV_stp {ps : List Pr} {bad : List Int → Bool} {c : List Int} (hc : isF ps c = true) (h : c.sum < off ps ps.length) : opnV ps bad c = (!bad c && (enF ps c c.length).any fun p => opnV ps bad (stpC c p)) := by
  have h6 := sum_nonneg c (isF_nonneg hc)
  have e : off ps ps.length - c.sum.toNat = (off ps ps.length - (c.sum.toNat + 1)) + 1 := by omega
  unfold opnV
  rw [e]
  show (!bad c && (enF ps c c.length).any fun p => opnT ps bad _ (stpC c p)) = _
  congr 1
  refine any_congr' fun p hp => ?_
  obtain ⟨_, h4, _, _⟩ := en_sum hc (Nat.le_refl _) hp
  rw [h4, show (c.sum + 1).toNat = c.sum.toNat + 1 by omega]
theorem opn_walk {ps : List Pr} {bad : List Int → Bool} : ∀ (n : Nat) {c : List Int}, isF ps c = true → opnV ps bad c = true → c.sum + n = off ps ps.length →
    ∃ R, wlkR ps (opnV ps bad) n c = some R ∧ R.length = n ∧ (∀ d ∈ R, isF ps d = true ∧ opnV ps bad d = true) ∧ (c :: R).getLast? = some (fullC ps)
  | 0, c, hc, ho, hs => ⟨[], rfl, rfl, fun d hd => (by cases hd), by rw [(full_of_sum hc).2 (by omega)]; rfl⟩
  | n + 1, c, hc, ho, hs => by
    rw [opnV_stp hc (by omega), Bool.and_eq_true, List.any_eq_true] at ho
    obtain ⟨_, q, hq, hoq⟩ := ho
    obtain ⟨q1, q2⟩ := mem_enF.1 hq
    cases hf : firstP ps (opnV ps bad) c with
    | none => rw [firstP_none hf q1 q2] at hoq; cases hoq
    | some p =>
      obtain ⟨a1, a2, a3⟩ := firstP_some hf
      obtain ⟨R, g1, g2, g3, g4⟩ := opn_walk n (rdy_is a2) a3 (by rw [sum_stpC a1]; omega)
      refine ⟨stpC c p :: R, by rw [wlkR_succ, hf]; simp only [g1, Option.map_some], by rw [List.length_cons, g2], fun d hd => ?_, by rw [List.getLast?_cons_cons]; exact g4⟩
      rcases List.mem_cons.1 hd with rfl | hd
      · exact ⟨rdy_is a2, a3⟩
      · exact g3 d hd
theorem opn_bad {ps : List Pr} {bad : List Int → Bool} {c : List Int} (hc : isF ps c = true) (h : opnV ps bad c = true) : bad c = false := by
  have h1 := sum_le_off hc
  rcases Int.lt_or_le c.sum (off ps ps.length) with h2 | h2
  · rw [opnV_stp hc h2, Bool.and_eq_true] at h
    simpa using h.1
  · rw [opnV_full (by omega)] at h
    simpa using h
end Go.AL
end
section
/- The package run: the space of a trace, and single events. No condition. -/
namespace Go.AL
open Go Go.RowKit
set_option maxRecDepth 4000
def aRs (ps : List Pr) : AV := .rp 2 [.agg [.sl 3 (ps.map aPr), .sl 1 (aNeeds ps ps)]] 0 0
theorem run_sender1 (f e : Ev) : PC Go.Proofs.Tryz.prog 117 [aEv f, .rp 5 [aEv e] 0 0] (ab (decide (f.kind = 2) && decide (f.msg = e.msg))) := by
  refine PC.enter 14 [.tmp 3] [2] Go.Proofs.Tryz.func117 rfl rfl rfl rfl rfl (by simp) (AWp.of ?_); simp only [go_sem]
  repeat (first | ((with_reducible refine AWp.ofC ?_ ?_); (focus exact rfl); simp only [go_sem]) | ((with_reducible refine an ?_ ?_); focus exact Au))
  refine ret_eq ?_; simp only [go_sem]
theorem run_sender (ps : List Pr) (hs : Sm ps) (hv : validF ps = true) (p : Nat) (hp : p < ps.length) (i : Nat) (hi : i < ps[p].evs.length) (hk : ps[p].evs[i].kind = 3) : PC Go.Proofs.Tryz.prog 86 [aTr ps, aEv ps[p].evs[i]] (.tup [aEid (sndr ps ps[p].evs[i].msg), ab true]) := by
  have hm := (valid_parts hv).2.2
  obtain ⟨hq, j, hj, hsd, h1, h2⟩ := recv_peer hm hp hi hk
  have hpr : 0 ≤ ps[p].evs[i].peer := by
    have := (evF_parts hp hi).1 (evF_of_valid hv hp hi)
    exact (formed_msg this.1 (.inr hk)).2.2.1
  have hix : ps[ps[p].evs[i].peer.toNat].evs.findIdx? (fun f => decide (f.kind = 2) && decide (f.msg = ps[p].evs[i].msg)) = some j := by
    rw [List.findIdx?_eq_some_iff_getElem]
    refine ⟨hj, by rw [h1, h2]; simp, fun k hkj h => ?_⟩
    simp only [Bool.and_eq_true, decide_eq_true_eq] at h
    have g1 := valid_unique hv hq hj h1
    have g2 := valid_unique hv hq (i := k) (by omega) h.1
    rw [h2] at g1
    rw [h.2, g1] at g2
    have := (Prod.mk.inj g2).2
    omega
  have hel := hs.evs _ (List.getElem_mem hq)
  have hir := events_indexFunc ps[ps[p].evs[i].peer.toNat].evs hel (.clo 117 [.rp 5 [aEv ps[p].evs[i]] 0 0]) rfl _ fun f _ => (run_sender1 f ps[p].evs[i]).clo
  rw [hix] at hir
  rw [hsd]
  have hgp := getD_map (f := aPr) hq
  have e1 : ((ps[p].evs[i].peer.toNat : Nat) : Int) = ps[p].evs[i].peer := by omega
  rw [e1]
  generalize ps[ps[p].evs[i].peer.toNat] = y at *
  generalize ps[p].evs[i] = e at *
  refine PC.enter 23 [.cell 4 66, .tmp 5] [2, 3] Go.Proofs.Tryz.func86 rfl rfl rfl rfl rfl (by simp) (AWp.of ?_); simp only [go_sem]
  intro b4
  repeat (first | ((with_reducible refine AWp.ofC ?_ ?_); (focus exact rfl); simp only [go_sem, hgp]) | ((with_reducible refine an ?_ ?_); focus exact Au))
  repeat ((with_reducible refine an ?_ ?_); focus exact As)
  refine (hir).val.use ?_; simp only [go_sem]
  have z0 : (0 : Int) ≤ (j : Int) := by omega
  repeat (first | ((with_reducible refine AWp.ofC ?_ ?_); (focus exact rfl); simp only [go_sem, z0]) | ((with_reducible refine an ?_ ?_); focus exact Au))
  refine ret_eq ?_; simp only [go_sem]
def rsL (ps : List Pr) (b p : Nat) (L : AHeap) : Prop :=
  (p = 0 ∧ L = [(b, .row 120 2 [.agg [.sl 3 (ps.map aPr), anil]] 1)]) ∨
  ∃ c cap, (¬ c = b ∧ ¬ b = c) ∧ L = [(c, .row 60 1 (aNeeds ps (ps.take p)) cap), (b, .row 120 2 [.agg [.sl 3 (ps.map aPr), .ls c 1 0 p cap]] 1)]
theorem run_open (ps : List Pr) (hs : Sm ps) (hv : validF ps = true) : PC Go.Proofs.Tryz.prog 47 [aTr ps] (aRs ps) := by
  obtain ⟨hl1, hl8⟩ := valid_len hv
  refine PC.enter 53 [.tmp 2] [1, 5, 8, 9, 38, 47] Go.Proofs.Tryz.func47 rfl rfl rfl rfl rfl (by simp) (AWp.of ?_); simp only [go_sem]
  repeat (first | ((with_reducible refine AWp.ofC ?_ ?_); (focus exact rfl); simp only [go_sem]) | ((with_reducible refine an ?_ ?_); focus exact Au))
  intro b3
  repeat (first | ((with_reducible refine AWp.ofC ?_ ?_); (focus exact rfl); simp only [go_sem]) | ((with_reducible refine an ?_ ?_); focus exact Au))
  refine AWp.range' ps.length [] [1, 3, 14, 15] (fun p vs L => vs = [] ∧ rsL ps b3 p L) (by omega) rfl rfl rfl ⟨rfl, .inl ⟨rfl, rfl⟩⟩ ?_ ?_
  · rintro p vs L hp - ⟨rfl, hL⟩
    have hgp := getD_map (f := aPr) hp
    simp only [go_sem]
    repeat (first | ((with_reducible refine AWp.ofC ?_ ?_); (focus exact rfl); simp only [go_sem, hgp]) | ((with_reducible refine an ?_ ?_); focus exact Au))
    intro b5 g5
    have hel := hs.evs _ (List.getElem_mem hp)
    repeat ((with_reducible refine an ?_ ?_); focus exact As)
    refine AWp.of ?_; simp only [go_sem]
    refine AWp.cutF [1, 3, 6, 14, 15, 16] (fun vs L1 => ∃ v, AppSt 66 2 ((ps[p].evs.map (needE ps)).map aEid) v L1 ∧
      vs = [.rp 1 [aTr ps] 0 0, .lp b3 2 0 0, v, aPrs ps, ai (ps.length : Nat), ai (p : Nat)]) ?_ ?_
    · repeat (first | ((with_reducible refine AWp.ofC ?_ ?_); (focus exact rfl); simp only [go_sem]) | ((with_reducible refine an ?_ ?_); focus exact Au))
      refine AWp.range' ps[p].evs.length [6] [1, 3, 14, 15, 16, 21, 22] (fun i vs L => ∃ v, vs = [v] ∧ AppSt 66 2 (((ps[p].evs.take i).map (needE ps)).map aEid) v L) (by omega) rfl rfl rfl ⟨anil, rfl, by rw [List.take_zero]; exact .nil⟩ ?_ ?_
      · rintro i vs L hi - ⟨v, rfl, hA⟩
        have hge := getD_map (f := aEv) hi
        have hne : needE ps ps[p].evs[i] = if ps[p].evs[i].kind = 3 then sndr ps ps[p].evs[i].msg else (0, 0) := rfl
        have hsn := fun hk => run_sender ps hs hv p hp i hi hk
        have htk : ((ps[p].evs.take (i + 1)).map (needE ps)).map aEid = ((ps[p].evs.take i).map (needE ps)).map aEid ++ [aEid (needE ps ps[p].evs[i])] := by
          rw [List.take_succ_eq_append_getElem hi, List.map_append, List.map_append]; rfl
        have hyl : (((ps[p].evs.take i).map (needE ps)).map aEid).length = i := by simp; omega
        rw [htk]
        generalize ((ps[p].evs.take i).map (needE ps)).map aEid = ys at *
        generalize needE ps ps[p].evs[i] = ne at *
        generalize ps[p].evs[i] = ev at *
        rcases hA.inv with ⟨e1, rfl, rfl⟩ | ⟨bq, capq, rfl, rfl⟩
        · simp only [go_sem]
          repeat (first | ((with_reducible refine AWp.ofC ?_ ?_); (focus exact rfl); simp only [go_sem, hge]) | ((with_reducible refine an ?_ ?_); focus exact Au))
          intro b8
          repeat (first | ((with_reducible refine AWp.ofC ?_ ?_); (focus exact rfl); simp only [go_sem]) | ((with_reducible refine an ?_ ?_); focus exact Au))
          intro b9
          repeat (first | ((with_reducible refine AWp.ofC ?_ ?_); (focus exact rfl); simp only [go_sem]) | ((with_reducible refine an ?_ ?_); focus exact Au))
          refine ⟨fun h3 => ?_, fun h3 => ?_⟩
          · rw [if_pos h3] at hne
            subst hne
            have hsn := hsn h3
            generalize sndr ps ev.msg = sx at *
            obtain ⟨s1, s2⟩ := sx
            repeat ((with_reducible refine an ?_ ?_); focus exact As)
            refine (hsn).val.use ?_; simp only [go_sem]
            repeat (first | ((with_reducible refine AWp.ofC ?_ ?_); (focus exact rfl); simp only [go_sem]) | ((with_reducible refine an ?_ ?_); focus exact Au))
            intro b' cap' hc'
            exact ⟨_, List.cons_sublist_cons.2 (List.nil_sublist _), _, rfl, by rw [e1]; exact .row b' [_] cap'⟩
          · rw [if_neg h3] at hne
            subst hne
            repeat (first | ((with_reducible refine AWp.ofC ?_ ?_); (focus exact rfl); simp only [go_sem]) | ((with_reducible refine an ?_ ?_); focus exact Au))
            intro b' cap' g' hc'
            exact ⟨_, List.cons_sublist_cons.2 (List.nil_sublist _), _, rfl, by rw [e1]; exact .row b' [_] cap'⟩
        · simp only [go_sem]
          repeat (first | ((with_reducible refine AWp.ofC ?_ ?_); (focus exact rfl); simp only [go_sem, hge]) | ((with_reducible refine an ?_ ?_); focus exact Au))
          intro b8 g8
          repeat (first | ((with_reducible refine AWp.ofC ?_ ?_); (focus exact rfl); simp only [go_sem]) | ((with_reducible refine an ?_ ?_); focus exact Au))
          intro b9 g9
          have n3 : ¬ b9 = bq := by omega
          have n4 : ¬ bq = b9 := by omega
          repeat (first | ((with_reducible refine AWp.ofC ?_ ?_); (focus exact rfl); simp only [go_sem]) | ((with_reducible refine an ?_ ?_); focus exact Au))
          refine ⟨fun h3 => ?_, fun h3 => ?_⟩
          · rw [if_pos h3] at hne
            subst hne
            have hsn := hsn h3
            generalize sndr ps ev.msg = sx at *
            obtain ⟨s1, s2⟩ := sx
            repeat ((with_reducible refine an ?_ ?_); focus exact As)
            refine (hsn).val.use ?_; simp only [go_sem]
            repeat (first | ((with_reducible refine AWp.ofC ?_ ?_); (focus exact rfl); simp only [go_sem]) | ((with_reducible refine an ?_ ?_); focus exact Au))
            intro b' cap' hc'
            exact ⟨_, List.cons_sublist_cons.2 (List.nil_sublist _), _, rfl, AppSt.snoc b' cap' _ rfl⟩
          · rw [if_neg h3] at hne
            subst hne
            repeat (first | ((with_reducible refine AWp.ofC ?_ ?_); (focus exact rfl); simp only [go_sem, n3, n4]) | ((with_reducible refine an ?_ ?_); focus exact Au))
            intro b' cap' g' hc'
            exact ⟨_, List.cons_sublist_cons.2 (List.nil_sublist _), _, rfl, AppSt.snoc b' cap' _ rfl⟩
      · rintro vs L - ⟨v, rfl, hA⟩
        rw [List.take_length] at hA
        simp only [go_sem]
        exact ⟨L, List.Sublist.refl _, v, hA, rfl⟩
    · rintro vs L1 - ⟨v, hA, rfl⟩
      simp only [go_sem]
      refine AWp.viewA (j := 6) hA rfl ?_
      clear g5
      have hs2 : aNeeds ps (ps.take (p + 1)) = aNeeds ps (ps.take p) ++ [.sl 2 ((ps[p].evs.map (needE ps)).map aEid)] := by
        unfold aNeeds; rw [List.take_succ_eq_append_getElem hp, List.map_append]; rfl
      have hy2 : (aNeeds ps (ps.take p)).length = p := by simp [aNeeds]; omega
      unfold rsL
      rw [hs2]
      generalize (ps[p].evs.map (needE ps)).map aEid = ne at *
      rcases hL with ⟨rfl, rfl⟩ | ⟨c2, cap2, ⟨d1, d2⟩, rfl⟩
      · have e2 := List.eq_nil_of_length_eq_zero hy2
        rw [e2]
        simp only [go_sem]
        repeat (first | ((with_reducible refine AWp.ofC ?_ ?_); (focus exact rfl); simp only [go_sem]) | ((with_reducible refine an ?_ ?_); focus exact Au))
        intro c1 k1 h31 hk1
        have d1 : ¬ c1 = b3 := by omega
        have d7 : ¬ b3 = c1 := by omega
        simp only [go_sem, d7]
        exact ⟨_, List.Sublist.refl _, c1, k1, ⟨d1, d7⟩, rfl⟩
      · generalize aNeeds ps (ps.take p) = ys2 at *
        have ht2 : ys2.take p = ys2 := List.take_of_length_le (by omega)
        repeat (first | ((with_reducible refine AWp.ofC ?_ ?_); (focus exact rfl); simp only [go_sem, d1, d2, ht2]) | ((with_reducible refine an ?_ ?_); focus exact Au))
        intro x1 k1 h21 hk1
        have d3 : ¬ x1 = b3 := fun e => h21 e.symm
        simp only [go_sem, h21]
        exact ⟨_, List.Sublist.refl _, x1, k1, ⟨d3, h21⟩, rfl⟩
  · rintro vs L - ⟨rfl, hL⟩
    rcases hL with ⟨h0, rfl⟩ | ⟨c1, cap1, ⟨d1, d2⟩, rfl⟩
    · omega
    rw [List.take_length]
    have hy2 : (aNeeds ps ps).length = ps.length := List.length_map _
    unfold aRs
    generalize aNeeds ps ps = ys2 at *
    simp only [go_sem]
    repeat (first | ((with_reducible refine AWp.ofC ?_ ?_); (focus exact rfl); simp only [go_sem]) | ((with_reducible refine an ?_ ?_); focus exact Au))
    refine ret_view [true, true] ?_; simp only [go_sem]
    refine Vw.lp (t := 120) (cap := 1) (xs := [.agg [.sl 3 (ps.map aPr), .ls c1 1 0 ps.length cap1]]) (by simp only [lk, d2, if_false, if_true]) rfl fun i x y hx hy => ?_
    cases i with
    | zero =>
      cases hx; cases hy
      refine .mkAgg (Vws.cons (.refl _) (Vws.cons ?_ .nil))
      exact Vw.ofLs (t := 60) (cap := cap1) (if_pos rfl) hy2.symm
    | succ i => cases hx
end Go.AL
end
