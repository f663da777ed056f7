/- Texts of this claim's proof: WMc, WMd, AlGrd, WSs, WSp, WCp, WCk, WEx, WRr, WEy, WPq, WNa, WNb, WTm, WDx, WPu, WNc, WNg, WNe, WNf, WMe, AlWrp, AlRng, WMf. No condition. -/
import Derived.Test.YtkijaghkhjoomaaGreatM9
import Derived.Test.YtkijaghkhjoomaaGreatM6
import Derived.Test.YtkijaghkhjoomaaGreatM8
import Derived.Test.YtkijaghkhjoomaaGreatM3
section
/- The package cuts: all consistent cuts in order. No condition. -/
namespace Go.AL
open Go Go.RowKit
set_option maxRecDepth 4000
def GrowS (n : Nat) (r : AV) (L : AHeap) : Prop := (n = 0 ∧ r = anil ∧ L = []) ∨ ∃ b cap, n ≤ cap ∧ r = .ls b 1 0 0 cap ∧ L = [(b, .row 43 1 (List.replicate n anil) cap)]
theorem rows_grow (n : Nat) (hn : n ≤ 1000000) : MCalls Go.Proofs.Tryz.prog 112 [anil, ai (n : Nat)] [] (GrowS n) := by
  refine MCalls.enter' 27 [.tmp 4] [] Go.Proofs.Tryz.func112 rfl rfl rfl rfl rfl (by simp) (AWp.of ?_); simp only [go_sem]
  repeat (first | ((with_reducible refine AWp.ofC ?_ ?_); (focus exact rfl); simp only [go_sem]) | ((with_reducible refine an ?_ ?_); focus exact Au))
  intro _
  repeat (first | ((with_reducible refine AWp.ofC ?_ ?_); (focus exact rfl); simp only [go_sem]) | ((with_reducible refine an ?_ ?_); focus exact Au))
  repeat (first | ((with_reducible refine AWp.ofC ?_ ?_); (focus exact rfl); simp only [go_sem]) | ((with_reducible refine an ?_ ?_); focus exact Au))
  refine ⟨fun h1 => ?_, fun h1 => ?_⟩
  · repeat (first | ((with_reducible refine AWp.ofC ?_ ?_); (focus exact rfl); simp only [go_sem]) | ((with_reducible refine an ?_ ?_); focus exact Au))
    intro b cap hc
    repeat (first | ((with_reducible refine AWp.ofC ?_ ?_); (focus exact rfl); simp only [go_sem]) | ((with_reducible refine an ?_ ?_); focus exact Au))
    refine ret_own ?_
    simp only [go_sem]
    have e : ((n : Int) - (((0 : Nat) : Int) - ((0 : Nat) : Int))).toNat = n := by omega
    rw [e]
    exact .inr ⟨b, cap, by omega, by simp, rfl⟩
  · have : n = 0 := by omega
    repeat (first | ((with_reducible refine AWp.ofC ?_ ?_); (focus exact rfl); simp only [go_sem]) | ((with_reducible refine an ?_ ?_); focus exact Au))
    refine ret_own ?_
    simp only [go_sem]
    exact .inl ⟨this, rfl, rfl⟩
def CatS (ls : List (List (List Int))) (k : Nat) (v : AV) (L : AHeap) : Prop :=
  (ls.flatten = [] ∧ v = anil ∧ L = []) ∨ ∃ b cap xs, v = .ls b 1 0 (ls.take k).flatten.length cap ∧ L = [(b, .row 43 1 xs cap)] ∧ (ls.take k).flatten.length ≤ xs.length ∧ xs.take (ls.take k).flatten.length = (ls.take k).flatten.map aInts
theorem flat_succ {ls : List (List (List Int))} {k : Nat} (hk : k < ls.length) : (ls.take (k + 1)).flatten = (ls.take k).flatten ++ ls[k] := by
  rw [List.take_succ_eq_append_getElem hk, List.flatten_append]; simp
theorem flat_le {ls : List (List (List Int))} (k : Nat) : (ls.take k).flatten.length ≤ ls.flatten.length := by
  conv => rhs; rw [← List.take_append_drop k ls, List.flatten_append, List.length_append]
  omega
theorem rows_concat (ls : List (List (List Int))) (hl : ls.length ≤ 100000000) (hf : ls.flatten.length ≤ 1000000) :
    MCalls Go.Proofs.Tryz.prog 85 [.sl 1 (ls.map aRows)] [] fun r L => CatS ls ls.length r L := by
  have hR : ∀ x : List (List Int), aRows x = .sl 1 (x.map aInts) := fun _ => rfl
  refine MCalls.enter' 36 [.tmp 2] [] Go.Proofs.Tryz.func85 rfl rfl rfl rfl rfl (by simp) (AWp.of ?_); simp only [go_sem]
  repeat (first | ((with_reducible refine AWp.ofC ?_ ?_); (focus exact rfl); simp only [go_sem]) | ((with_reducible refine an ?_ ?_); focus exact Au))
  refine AWp.range' ls.length [3] [0, 9, 10] (fun k vs L => L = [] ∧ vs = [ai ((ls.take k).flatten.length : Nat)]) (by omega) rfl rfl rfl ⟨rfl, by rw [List.take_zero]; rfl⟩ ?_ ?_
  · rintro k vs L hk - ⟨rfl, rfl⟩
    have h1 := flat_le (ls := ls) k
    have h2 := flat_le (ls := ls) (k + 1)
    have h3 := congrArg List.length (flat_succ hk)
    rw [List.length_append] at h3
    have hg := getD_map (f := aRows) hk
    simp only [go_sem]
    repeat (first | ((with_reducible refine AWp.ofC ?_ ?_); (focus exact rfl); simp only [go_sem, hg]) | ((with_reducible refine an ?_ ?_); focus exact Au))
    intro _
    repeat (first | ((with_reducible refine AWp.ofC ?_ ?_); (focus exact rfl); simp only [go_sem]) | ((with_reducible refine an ?_ ?_); focus exact Au))
    exact ⟨_, List.Sublist.refl _, rfl, by rw [h3]; simp⟩
  · rintro vs L - ⟨rfl, rfl⟩
    rw [List.take_length]
    simp only [go_sem]
    repeat (first | ((with_reducible refine AWp.ofC ?_ ?_); (focus exact rfl); simp only [go_sem]) | ((with_reducible refine an ?_ ?_); focus exact Au))
    refine (rows_grow _ hf).val.mono ?_
    intro r L hr
    have hI : CatS ls 0 r L := by
      rcases hr with ⟨h0, rfl, rfl⟩ | ⟨b, cap, hc, rfl, rfl⟩
      · exact .inl ⟨List.eq_nil_of_length_eq_zero h0, rfl, rfl⟩
      · exact .inr ⟨b, cap, _, by simp, rfl, by simp, by simp⟩
    clear hr
    have hfo : fo r = (True, r) := by rcases hI with ⟨_, rfl, _⟩ | ⟨b, cap, xs, rfl, _⟩ <;> rfl
    simp only [go_sem, hfo]
    repeat (first | ((with_reducible refine AWp.ofC ?_ ?_); (focus exact rfl); simp only [go_sem]) | ((with_reducible refine an ?_ ?_); focus exact Au))
    refine AWp.range' ls.length [6] [25, 26] (fun k vs L => ∃ v, vs = [v] ∧ CatS ls k v L) (by omega) rfl rfl rfl ⟨_, rfl, hI⟩ ?_ ?_
    · clear hI
      rintro k vs L hk - ⟨v, rfl, hC⟩
      have h2 := flat_le (ls := ls) (k + 1)
      have hs := flat_succ hk
      have h3 := congrArg List.length hs
      rw [List.length_append] at h3
      have hg := getD_map (f := aRows) hk
      have hll : (ls[k].map aInts).length = ls[k].length := List.length_map _
      rcases hC with ⟨h0, rfl, rfl⟩ | ⟨b, cap, xs, rfl, rfl, hx, ht⟩
      · have he : ls[k].map aInts = [] := by
          rw [List.flatten_eq_nil_iff.1 h0 _ (List.getElem_mem hk)]; rfl
        simp only [go_sem]
        repeat (first | ((with_reducible refine AWp.ofC ?_ ?_); (focus exact rfl); simp only [go_sem, hg, he]) | ((with_reducible refine an ?_ ?_); focus exact Au))
        exact ⟨_, List.Sublist.refl _, _, rfl, .inl ⟨h0, rfl, rfl⟩⟩
      · have hy : (ls.take (k + 1)).flatten.map aInts = (ls.take k).flatten.map aInts ++ ls[k].map aInts := by rw [hs, List.map_append]
        unfold CatS
        rw [hy, h3, ← ht]
        simp only [go_sem]
        repeat (first | ((with_reducible refine AWp.ofC ?_ ?_); (focus exact rfl); simp only [go_sem, hg]) | ((with_reducible refine an ?_ ?_); focus exact Au))
        intro b' cap' hc
        refine ⟨_, List.Sublist.refl _, _, rfl, .inr ⟨b', cap', _, rfl, rfl, ?_, ?_⟩⟩
        · rw [List.length_append, List.length_take]; omega
        · rw [List.take_of_length_le (by rw [List.length_append, List.length_take]; omega)]
    · clear hI
      rintro vs L - ⟨v, rfl, hC⟩
      have hfo : fo v = (True, v) := by rcases hC with ⟨_, rfl, _⟩ | ⟨b, cap, xs, rfl, _⟩ <;> rfl
      simp only [go_sem]
      repeat (first | ((with_reducible refine AWp.ofC ?_ ?_); (focus exact rfl); simp only [go_sem, hfo]) | ((with_reducible refine an ?_ ?_); focus exact Au))
      refine ret_own ?_
      simp only [go_sem]
      exact hC
/-! The levels that there are, their list, and the error. -/
noncomputable def lstE (ps : List Pr) : Int := if validF ps = true then (if (cutsF ps).length ≤ 5000 then 0 else 16) else 1
noncomputable def lvOf (ps : List Pr) : List (List (List Int)) := if lstE ps = 0 then (List.range (nlev ps)).map (levF ps) else []
noncomputable def lstF (ps : List Pr) : List (List Int) := if lstE ps = 0 then cutsF ps else []
noncomputable def aLst (ps : List Pr) : AV := .tup [aRows (lstF ps), ai (lstE ps)]
theorem lst_zero {ps : List Pr} : lstE ps = 0 ↔ validF ps = true ∧ (cutsF ps).length ≤ 5000 := by
  unfold lstE
  split
  · split <;> simp_all
  · simp_all
theorem aLvs_eq (ps : List Pr) : aLvs ps = .tup [.sl 1 ((lvOf ps).map aRows), ai (lstE ps)] := by
  unfold aLvs lvOf lvsF
  by_cases hv : validF ps = true
  · by_cases h5 : (cutsF ps).length ≤ 5000
    · rw [if_pos hv, if_pos h5, if_pos (lst_zero.2 ⟨hv, h5⟩)]
      unfold lstE
      rw [if_pos hv, if_pos h5, List.map_map]; rfl
    · rw [if_pos hv, if_neg h5, if_neg fun h => h5 (lst_zero.1 h).2]
      unfold lstE
      rw [if_pos hv, if_neg h5]; rfl
  · rw [if_neg hv, if_neg fun h => hv (lst_zero.1 h).1]
    unfold lstE
    rw [if_neg hv]; rfl
theorem lev_nlev {ps : List Pr} (hv : validF ps = true) : levF ps (nlev ps) = [] := by
  have h1 : (levF ps (off ps ps.length + 1)).isEmpty = true := by rw [levF_end hv (by omega)]; rfl
  have : nlev ps < off ps ps.length + 2 := by
    unfold nlev
    have := List.findIdx_lt_length_of_exists (p := fun k => (levF ps k).isEmpty) (xs := List.range (off ps ps.length + 2)) ⟨off ps ps.length + 1, by simp, h1⟩
    rwa [List.length_range] at this
  exact List.isEmpty_iff.1 (range_findIdx (fun k => (levF ps k).isEmpty) _ this)
theorem nlev_le {ps : List Pr} : nlev ps ≤ off ps ps.length + 2 := by
  have := List.findIdx_le_length (p := fun k => (levF ps k).isEmpty) (xs := List.range (off ps ps.length + 2))
  rwa [List.length_range] at this
theorem cum_nlev {ps : List Pr} (hv : validF ps = true) : cumF ps (nlev ps) = cutsF ps := by
  have h := cumF_end (lev_nlev hv)
  unfold cutsF
  rcases Nat.lt_or_ge (off ps ps.length + 1) (nlev ps) with h1 | h1
  · have h2 := cumF_end (levF_end hv (show off ps ps.length < off ps ps.length + 1 by omega)) (nlev ps - (off ps ps.length + 1))
    rw [show off ps ps.length + 1 + (nlev ps - (off ps ps.length + 1)) = nlev ps by omega] at h2
    exact h2
  · have := h (off ps ps.length + 1 - nlev ps)
    rw [show nlev ps + (off ps ps.length + 1 - nlev ps) = off ps ps.length + 1 by omega] at this
    exact this.symm
theorem lv_flat (ps : List Pr) : (lvOf ps).flatten = lstF ps := by
  unfold lvOf lstF
  split
  · rename_i h
    rw [← cum_nlev (lst_zero.1 h).1]
    unfold cumF
    rw [List.flatMap_def]
  · rfl
theorem lst_len (ps : List Pr) : (lstF ps).length ≤ 5000 := by
  unfold lstF
  split
  · rename_i h; exact (lst_zero.1 h).2
  · exact Nat.zero_le _
theorem lv_len {ps : List Pr} (hs : Sm ps) : (lvOf ps).length ≤ 10000002 := by
  unfold lvOf
  split
  · rename_i h
    have := (valid_len (lst_zero.1 h).1).2
    rw [List.length_map, List.length_range]
    have := nlev_le (ps := ps)
    have := off_small hs ps.length (Nat.le_refl _)
    omega
  · exact Nat.zero_le _
theorem cuts_levels' (ps : List Pr) (hs : Sm ps) : PC Go.Proofs.Tryz.prog 57 [aTr ps] (.tup [.sl 1 ((lvOf ps).map aRows), ai (lstE ps)]) := by
  rw [← aLvs_eq]; exact cuts_levels ps hs
end Go.AL
end
section
/- The package cuts: list, Count, List, Level, Widest; the reference's. No condition. -/
namespace Go.AL
open Go Go.RowKit
set_option maxRecDepth 4000
theorem Vw.pre {L : AHeap} {b k n c : Nat} {t : TypeId} {xs ys : List AV} {cap : Nat} (h : lk L b = some (.row t k xs cap)) (hn : n ≤ xs.length) (ht : xs.take n = ys) : Vw L (.ls b k 0 n c) (.sl k ys) :=
  .ls h (by omega) (by rw [List.drop_zero, ht]) (by rw [List.drop_zero, ht]; exact (Vws.refl ys).2)
theorem cuts_list (ps : List Pr) (hs : Sm ps) : PC Go.Proofs.Tryz.prog 54 [aTr ps] (aLst ps) := by
  have h1 := cuts_levels' ps hs
  have hf : (lvOf ps).flatten.length ≤ 1000000 := by rw [lv_flat]; have := lst_len ps; omega
  have h2 := rows_concat (lvOf ps) (by have := lv_len hs; omega) hf
  have hR : ∀ x : List (List Int), aRows x = .sl 1 (x.map aInts) := fun _ => rfl
  have hfl := lv_flat ps
  unfold aLst
  rw [← hfl, hR]
  generalize lvOf ps = ls at *
  generalize lstE ps = e at *
  refine PC.enter 14 [.tmp 2, .tmp 3] [1] Go.Proofs.Tryz.func54 rfl rfl rfl rfl rfl (by simp) (AWp.of ?_); simp only [go_sem]
  repeat (first | ((with_reducible refine AWp.ofC ?_ ?_); (focus exact rfl); simp only [go_sem]) | ((with_reducible refine an ?_ ?_); focus exact Au))
  repeat ((with_reducible refine an ?_ ?_); focus exact As)
  refine (h1).val.use ?_; simp only [go_sem]
  repeat (first | ((with_reducible refine AWp.ofC ?_ ?_); (focus exact rfl); simp only [go_sem]) | ((with_reducible refine an ?_ ?_); focus exact Au))
  refine h2.val.mono ?_
  intro r L hC
  unfold CatS at hC
  rw [List.take_length] at hC
  rcases hC with ⟨h0, rfl, rfl⟩ | ⟨b, cap, xs, rfl, rfl, hx, ht⟩
  · simp only [go_sem]
    repeat (first | ((with_reducible refine AWp.ofC ?_ ?_); (focus exact rfl); simp only [go_sem]) | ((with_reducible refine an ?_ ?_); focus exact Au))
    refine ret_view [] ?_; simp only [go_sem]
    rw [h0]
    exact .mkTup (Vws.cons (.nil 1) (Vws.refl _))
  · simp only [go_sem]
    repeat (first | ((with_reducible refine AWp.ofC ?_ ?_); (focus exact rfl); simp only [go_sem]) | ((with_reducible refine an ?_ ?_); focus exact Au))
    refine ret_view [true] ?_; simp only [go_sem]
    exact .mkTup (Vws.cons (Vw.pre (if_pos rfl) hx ht) (Vws.refl _))
theorem cuts_List (ps : List Pr) (hs : Sm ps) : PC Go.Proofs.Tryz.prog 11 [aTr ps] (aLst ps) := by
  have h1 := cuts_list ps hs
  unfold aLst at *
  refine PC.enter 8 [.tmp 2, .tmp 3] [1] Go.Proofs.Tryz.func11 rfl rfl rfl rfl rfl (by simp) (AWp.of ?_); simp only [go_sem]
  repeat (first | ((with_reducible refine AWp.ofC ?_ ?_); (focus exact rfl); simp only [go_sem]) | ((with_reducible refine an ?_ ?_); focus exact Au))
  repeat ((with_reducible refine an ?_ ?_); focus exact As)
  refine (h1).val.use ?_; simp only [go_sem]
  repeat (first | ((with_reducible refine AWp.ofC ?_ ?_); (focus exact rfl); simp only [go_sem]) | ((with_reducible refine an ?_ ?_); focus exact Au))
  refine ret_eq ?_; simp only [go_sem]
/-! The full cut. -/
def fullC (ps : List Pr) : List Int := ps.map fun x => (x.evs.length : Int)
theorem fullC_at {ps : List Pr} {p : Nat} (hp : p < ps.length) : cAt (fullC ps) p = ps[p].evs.length := by
  unfold fullC
  rw [cAt_nat (by rw [List.length_map]; exact hp), List.getElem_map]
theorem fullC_is {ps : List Pr} (hv : validF ps = true) : isF ps (fullC ps) = true := by
  have hl : (fullC ps).length = ps.length := List.length_map _
  refine isF_iff.2 ⟨hl, (inRange_iff hl).2 fun p hp => ?_, closed_iff.2 fun p hp i hi hk _ => ?_⟩
  · rw [fullC_at hp]; omega
  · obtain ⟨s, hs, j, hj, e, _, _⟩ := sndr_some (recv_sndr (valid_parts hv).2.2 hp hi hk)
    rw [e]
    simp only
    rw [fullC_at hs]; omega
theorem fullC_sum (ps : List Pr) : (fullC ps).sum = off ps ps.length := by
  unfold fullC off
  rw [List.take_length]
  induction ps with
  | nil => rfl
  | cons x ps ih => rw [List.map_cons, List.sum_cons, ih, List.map_cons, List.sum_cons]; omega
theorem levF_some {ps : List Pr} (hv : validF ps = true) {k : Nat} (hk : k ≤ off ps ps.length) : levF ps k ≠ [] := fun h => by
  have := levF_nil h (off ps ps.length - k)
  rw [show k + (off ps ps.length - k) = off ps ps.length by omega] at this
  have h2 := (mem_levF hv (off ps ps.length) (fullC ps)).2 ⟨fullC_is hv, fullC_sum ps⟩
  rw [this] at h2
  cases h2
theorem nlev_off {ps : List Pr} (hv : validF ps = true) : nlev ps = off ps ps.length + 1 := by
  have h1 := lev_nlev hv
  rcases Nat.lt_or_ge (off ps ps.length) (nlev ps) with h | h
  · rcases Nat.lt_or_ge (off ps ps.length + 1) (nlev ps) with h2 | h2
    · exact absurd (levF_end hv (by omega)) (nlev_lt h2)
    · omega
  · exact absurd h1 (levF_some hv h)
/-! The cuts of a size. -/
def lvlF (l : List (List Int)) (k : Int) : List (List Int) := l.filter fun c => decide (c.sum = k)
theorem lvl_lev {ps : List Pr} (hv : validF ps = true) (k j : Nat) : lvlF (levF ps j) k = if j = k then levF ps k else [] := by
  unfold lvlF
  split
  · rename_i e; subst e
    exact List.filter_eq_self.2 fun c hc => decide_eq_true ((mem_levF hv _ c).1 hc).2
  · rename_i e
    exact List.filter_eq_nil_iff.2 fun c hc => by
      have := ((mem_levF hv _ c).1 hc).2
      rw [decide_eq_true_eq]; omega
theorem lvl_cum {ps : List Pr} (hv : validF ps = true) (k : Nat) : ∀ n, lvlF (cumF ps n) k = if k < n then levF ps k else []
  | 0 => by simp [cumF, lvlF]
  | n + 1 => by
    have h1 := lvl_cum hv k n
    have h2 := lvl_lev hv k n
    rw [cumF_succ]
    unfold lvlF at *
    rw [List.filter_append, h1, h2]
    by_cases e : n = k
    · subst e; simp
    · rw [if_neg e, List.append_nil]
      by_cases h : k < n
      · rw [if_pos h, if_pos (by omega)]
      · rw [if_neg h, if_neg (by omega)]
theorem lvl_cuts {ps : List Pr} (hv : validF ps = true) {k : Nat} (hk : k ≤ off ps ps.length) : lvlF (cutsF ps) k = levF ps k := by
  unfold cutsF
  rw [lvl_cum hv, if_pos (by omega)]
/-- The first place with the most, and how many. -/
def widF (f : Nat → Nat) : Nat → Nat × Nat
  | 0 => (0, 0)
  | n + 1 => if (widF f n).2 < f n then (n, f n) else widF f n
theorem widF_congr {f g : Nat → Nat} : ∀ {n : Nat}, (∀ k, k < n → f k = g k) → widF f n = widF g n
  | 0, _ => rfl
  | n + 1, h => by
    unfold widF
    rw [widF_congr fun k hk => h k (by omega), h n (by omega)]
noncomputable def aLevel (ps : List Pr) (k : Int) : AV := .tup (if validF ps = true then (if k < 0 ∨ (off ps ps.length : Int) < k then [.sl 1 [], ai 2] else if lstE ps = 0 then [aRows (levF ps k.toNat), ai 0] else [.sl 1 [], ai (lstE ps)]) else [.sl 1 [], ai 1])
end Go.AL
end
section
/- The layer AL: a statement whose guarded operations are known to be wanted or not: a guarded call may turn the memory. No condition. -/
namespace Go.AL
open Go Go.RowKit

def astepF (C : Cfg) (all : List Oper) (o : Oper) (ρ : Env) (L : AHeap) (K : ARes) : Prop :=
  match o.guard with
  | none => aop C o ρ L K
  | some (j, want) => match gval all ρ j want with
    | some b => (b = want → aop C o ρ L K) ∧ (b ≠ want → K (put ρ o.dst .any) L)
    | none => False
def aregionF (C : Cfg) (all : List Oper) : List Oper → Env → AHeap → ARes → Prop
  | [], ρ, L, K => K ρ L
  | o :: rest, ρ, L, K => astepF C all o ρ L fun ρ L => aregionF C all rest ρ L K
def aregFK (C : Cfg) (all rest : List Oper) (K : ARes) (ρ : Env) (L : AHeap) : Prop := aregionF C all rest ρ L K
theorem aregionF_nil (C : Cfg) (all : List Oper) (ρ : Env) (L : AHeap) (K : ARes) : aregionF C all [] ρ L K = K ρ L := rfl
theorem aregionF_cons (C : Cfg) (all rest : List Oper) (o : Oper) (ρ : Env) (L : AHeap) (K : ARes) : aregionF C all (o :: rest) ρ L K = astepF C all o ρ L (aregFK C all rest K) := rfl
attribute [go_sem] aregionF_nil aregionF_cons astepF aregFK
end Go.AL
end
section
/- The package conjunctive: the board of a trace and locals, the steps, the answer. No condition. -/
namespace Go.AL
open Go Go.RowKit
set_option maxRecDepth 4000
def anilp : AV := .v (.pointer none)
def okK (E : Elim) (m : Nat) : List AV := (List.range m).map fun q => .sl 1 (okL E q)
end Go.AL
end
section
/- The package conjunctive: what Possibly and Steps return. No condition. -/
namespace Go.AL
open Go Go.RowKit
set_option maxRecDepth 4000
noncomputable def aPossR (ps : List Pr) (ts : List Pd) : AV := if conF ps ts = 0 then .tup [aAns (ansOf (elimOf ps ts)), ai 0] else .tup [aAns noAns, ai (conF ps ts)]
end Go.AL
end
section
/- What certificates say. Plain laws. No condition. -/
namespace Go.AL
open Go Go.RowKit
set_option maxRecDepth 4000
abbrev Spn := Int × Int × Int
def spOk (E : Elim) (now : Nat → Nat) (s : Spn) : Bool := !lostB E now && (decide (0 ≤ s.1) && decide (s.1 < E.n) && decide (s.2.1 = now s.1.toNat) && decide (s.2.1 ≤ s.2.2) && decide (s.2.2 ≤ E.top s.1.toNat))
def spEx (E : Elim) (now : Nat → Nat) (s : Spn) : Bool := (List.range (s.2.2.toNat + 1 - s.2.1.toNat)).all fun j => exB E now s.1.toNat (s.2.1.toNat + j)
def endsG (E : Elim) : List Spn → (Nat → Nat) → Bool
  | [], now => lostB E now
  | s :: r, now => if spOk E now s = true ∧ spEx E now s = true then endsG E r (updN now s.1.toNat (s.2.2.toNat + 1)) else false
/-- A list of counts is a consistent cut at which the locals are true. -/
def satG (ps : List Pr) (E : Elim) (c : List Int) : Bool := isF ps c && (List.range c.length).all fun p => E.ok p (cAt c p).toNat
noncomputable def checkG (ps : List Pr) (ts : List Pd) (a : Ans) : Bool :=
  if conF ps ts = 0 ∧ a.mode = 1 ∧ a.cuts = [] ∧ a.run = [] ∧ a.value = 0 then
    if a.holds = true then decide (a.kind = 1) && decide (a.spans = []) && satG ps (elimOf ps ts) a.cut
    else decide (a.kind = 4) && decide (a.cut = []) && endsG (elimOf ps ts) a.spans fun _ => 0
  else false
section
variable {ps : List Pr} {ts : List Pd}
end
end Go.AL
end
section
/- The package conjunctive: Check. No condition. -/
namespace Go.AL
open Go Go.RowKit
set_option maxRecDepth 4000
theorem cut_Consistent (ps : List Pr) (hs : Sm ps) (c : List Int) : PC Go.Proofs.Tryz.prog 99 [aTr ps, aInts c] (ab (decide (givenF ps [c] [] = 0))) := by
  have hg := cut_given ps hs [c] (by simp) [] (by simp)
  generalize givenF ps [c] [] = G at *
  refine PC.enter 10 [.tmp 4] [2, 7] Go.Proofs.Tryz.func99 rfl rfl rfl rfl rfl (by simp) (AWp.of ?_); simp only [go_sem]
  repeat (first | ((with_reducible refine AWp.ofC ?_ ?_); (focus exact rfl); simp only [go_sem]) | ((with_reducible refine an ?_ ?_); focus exact Au))
  refine (PC.view (Vws.cons (.refl _) (Vws.cons (.refl _) (Vws.cons (.nil 1) .nil))) hg (Own.v _) ?_).val
  simp only [go_sem]
  repeat (first | ((with_reducible refine AWp.ofC ?_ ?_); (focus exact rfl); simp only [go_sem]) | ((with_reducible refine an ?_ ?_); focus exact Au))
  refine ret_eq ?_; simp only [go_sem]
theorem given_isF {ps : List Pr} (hv : validF ps = true) (c : List Int) : decide (givenF ps [c] [] = 0) = isF ps c := by
  rw [Bool.eq_iff_iff, decide_eq_true_eq, givenL, isF_iff]
  simp [hv]
end Go.AL
end
section
/- The reference of layer 37: faults, and which states are excluded. No condition. -/
namespace Go.AL
open Go Go.RowKit
set_option maxRecDepth 4000
end Go.AL
end
section
/- How many steps an elimination has. Plain law. No condition. -/
namespace Go.AL
open Go Go.RowKit
set_option maxRecDepth 4000
end Go.AL
end
section
/- The reference of layer 37: steps of elimination. No condition. -/
namespace Go.AL
open Go Go.RowKit
set_option maxRecDepth 4000
end Go.AL
end
section
/- Whether a cut may be dropped: the package prune and the reference of layer 49. No condition. -/
namespace Go.AL
open Go Go.RowKit
set_option maxRecDepth 4000
def leqF (a b : List Int) : Bool := decide (a.length = b.length) && (List.range a.length).all fun i => decide (a.getD i 0 ≤ b.getD i 0)
theorem leqF_ne {a b : List Int} (h : ¬ a.length = b.length) : leqF a b = false := by unfold leqF; rw [decide_eq_false h]; rfl
theorem leqF_no {a b : List Int} {i : Nat} (hi : i < a.length) (h : b.getD i 0 < a.getD i 0) : leqF a b = false := by
  unfold leqF
  rw [List.all_eq_false.2 ⟨i, List.mem_range.2 hi, by simpa using h⟩, Bool.and_false]
theorem leqF_yes {a b : List Int} (hl : a.length = b.length) (h : ∀ i, i < a.length → a.getD i 0 ≤ b.getD i 0) : leqF a b = true := by
  unfold leqF
  rw [decide_eq_true hl, Bool.true_and, List.all_eq_true]
  exact fun i hi => decide_eq_true (h i (List.mem_range.1 hi))
theorem leqF_iff {a b : List Int} : leqF a b = true ↔ a.length = b.length ∧ ∀ i, i < a.length → a.getD i 0 ≤ b.getD i 0 := by
  unfold leqF
  rw [Bool.and_eq_true, List.all_eq_true, decide_eq_true_eq]
  exact ⟨fun h => ⟨h.1, fun i hi => of_decide_eq_true (h.2 i (List.mem_range.2 hi))⟩, fun h => ⟨h.1, fun i hi => decide_eq_true (h.2 i (List.mem_range.1 hi))⟩⟩
theorem getD_ai2 {x : List Int} {i : Nat} (hi : i < x.length) : (x.map ai).getD i .any = ai (x.getD i 0) := by
  rw [getD_map hi, List.getD_eq_getElem?_getD, List.getElem?_eq_getElem hi]; rfl
theorem cut_Leq (a b : List Int) (ha : a.length ≤ 1000000) : PC Go.Proofs.Tryz.prog 48 [aInts a, aInts b] (ab (leqF a b)) := by
  by_cases hl : a.length = b.length
  · have hli : (a.length : Int) = b.length := by omega
    have hno := fun i hi h => leqF_no (a := a) (b := b) (i := i) hi h
    have hyes := leqF_yes hl
    generalize leqF a b = B at *
    refine PC.enter 26 [.tmp 4] [] Go.Proofs.Tryz.func48 rfl rfl rfl rfl rfl (by simp) (AWp.of ?_); simp only [go_sem]
    repeat (first | ((with_reducible refine AWp.ofC ?_ ?_); (focus exact rfl); simp only [go_sem, hli]) | ((with_reducible refine an ?_ ?_); focus exact Au))
    refine AWp.range' b.length [] [0, 1, 12] (fun i vs L => L = [] ∧ ∀ j, j < i → a.getD j 0 ≤ b.getD j 0) (by omega) rfl rfl rfl ⟨rfl, fun j h => by omega⟩ ?_ ?_
    · rintro i vs L hi - ⟨rfl, hJ⟩
      have ga := getD_ai2 (show i < a.length by omega)
      have gb := getD_ai2 hi
      have hno := hno i (by omega)
      simp only [go_sem]
      repeat (first | ((with_reducible refine AWp.ofC ?_ ?_); (focus exact rfl); simp only [go_sem]) | ((with_reducible refine an ?_ ?_); focus exact Au))
      refine AWp.seq ?_
      refine AWp.mix mixed [0, 1, 2, 3, 4, 5, 6, 7, 8] .done (by kernel_rfl) ?_; simp only [go_sem, ga, gb, hli]
      repeat ((with_reducible refine an ?_ ?_); focus exact As)
      repeat (first | ((with_reducible refine AWp.ofC ?_ ?_); (focus exact rfl); simp only [go_sem]) | ((with_reducible refine an ?_ ?_); focus exact Au))
      refine ⟨fun h1 => ?_, fun h1 => ?_⟩
      · repeat (first | ((with_reducible refine AWp.ofC ?_ ?_); (focus exact rfl); simp only [go_sem]) | ((with_reducible refine an ?_ ?_); focus exact Au))
        refine ret_eq ?_; simp only [go_sem]
        rw [hno h1]
      · refine ⟨_, List.Sublist.refl _, rfl, fun j hj => ?_⟩
        by_cases e : j = i
        · subst e; omega
        · exact hJ j (by omega)
    · rintro vs L - ⟨rfl, hJ⟩
      simp only [go_sem]
      repeat (first | ((with_reducible refine AWp.ofC ?_ ?_); (focus exact rfl); simp only [go_sem]) | ((with_reducible refine an ?_ ?_); focus exact Au))
      refine ret_eq ?_; simp only [go_sem]
      rw [hyes fun i hi => hJ i (by omega)]
  · have hli : ¬ (a.length : Int) = b.length := by omega
    rw [leqF_ne hl]
    refine PC.enter 26 [.tmp 4] [] Go.Proofs.Tryz.func48 rfl rfl rfl rfl rfl (by simp) (AWp.of ?_); simp only [go_sem]
    repeat (first | ((with_reducible refine AWp.ofC ?_ ?_); (focus exact rfl); simp only [go_sem, hli]) | ((with_reducible refine an ?_ ?_); focus exact Au))
    refine ret_eq ?_; simp only [go_sem]
noncomputable def safeF (ps : List Pr) (ts : List Pd) (c : List Int) : Bool := lostF (elimOf ps ts) || leqF c (cutL ps.length (finF (elimOf ps ts)))
noncomputable def safeE (ps : List Pr) (ts : List Pd) (c : List Int) : Int := if conF ps ts ≠ 0 then conF ps ts else givenF ps [c] []
end Go.AL
end
section
/- The package cuts: the list as one's own, what is deleted of it, lists that are no cuts, Find, Between. No condition. -/
namespace Go.AL
open Go Go.RowKit
set_option maxRecDepth 4000
def OwnS (xs : List (List Int)) (v : AV) (L : AHeap) : Prop :=
  (xs = [] ∧ v = anil ∧ L = []) ∨ ∃ b cap ws, v = .ls b 1 0 xs.length cap ∧ L = [(b, .row 43 1 (xs.map aInts ++ ws) cap)]
theorem OwnS.fo {xs : List (List Int)} {v : AV} {L : AHeap} (h : OwnS xs v L) : AL.fo v = (True, v) := by
  rcases h with ⟨_, rfl, _⟩ | ⟨b, cap, ws, rfl, _⟩ <;> rfl
theorem cuts_listO (ps : List Pr) (hs : Sm ps) : MCalls Go.Proofs.Tryz.prog 54 [aTr ps] [] fun r L => ∃ v, r = .tup [v, ai (lstE ps)] ∧ OwnS (lstF ps) v L := by
  have h1 := cuts_levels' ps hs
  have hf : (lvOf ps).flatten.length ≤ 1000000 := by rw [lv_flat]; have := lst_len ps; omega
  have h2 := rows_concat (lvOf ps) (by have := lv_len hs; omega) hf
  have hfl := lv_flat ps
  rw [← hfl]
  generalize lvOf ps = ls at *
  generalize lstE ps = e at *
  refine MCalls.enter' 14 [.tmp 2, .tmp 3] [1] Go.Proofs.Tryz.func54 rfl rfl rfl rfl rfl (by simp) (AWp.of ?_); simp only [go_sem]
  repeat (first | ((with_reducible refine AWp.ofC ?_ ?_); (focus exact rfl); simp only [go_sem]) | ((with_reducible refine an ?_ ?_); focus exact Au))
  repeat ((with_reducible refine an ?_ ?_); focus exact As)
  refine (h1).val.use ?_; simp only [go_sem]
  repeat (first | ((with_reducible refine AWp.ofC ?_ ?_); (focus exact rfl); simp only [go_sem]) | ((with_reducible refine an ?_ ?_); focus exact Au))
  refine h2.val.mono ?_
  intro r L hC
  have hO : OwnS ls.flatten r L := by
    unfold CatS at hC
    rw [List.take_length] at hC
    rcases hC with h | ⟨b, cap, xs, e1, e2, h3, h4⟩
    · exact .inl h
    · exact .inr ⟨b, cap, xs.drop ls.flatten.length, e1, by rw [e2, ← h4, List.take_append_drop]⟩
  have hfo := hO.fo
  clear hC
  simp only [go_sem, hfo]
  repeat (first | ((with_reducible refine AWp.ofC ?_ ?_); (focus exact rfl); simp only [go_sem]) | ((with_reducible refine an ?_ ?_); focus exact Au))
  refine ret_own ?_
  simp only [go_sem]
  exact ⟨r, rfl, hO⟩
/-! Deleting. -/
theorem getD_app {l r : List AV} {i : Nat} (h : i < l.length) : (l ++ r).getD i .any = l.getD i .any := by
  rw [List.getD_eq_getElem?_getD, List.getElem?_append_left h, List.getD_eq_getElem?_getD]
theorem rows_delete_nil (g : AV) (hgf : AL.fo g = (True, g)) : PC Go.Proofs.Tryz.prog 69 [anil, g] anil := by
  have h : PC Go.Proofs.Tryz.prog 67 [aRows [], g] (ai (-1)) := rows_indexFunc [] (by decide) g hgf (fun _ => false) (fun x hx => by cases hx)
  refine PC.enter 42 [.tmp 4] [] Go.Proofs.Tryz.func69 rfl rfl rfl rfl rfl (by simp) (AWp.of ?_); simp only [go_sem]
  repeat (first | ((with_reducible refine AWp.ofC ?_ ?_); (focus exact rfl); simp only [go_sem, hgf]) | ((with_reducible refine an ?_ ?_); focus exact Au))
  refine (PC.view (Vws.cons (.nil 1) (Vws.cons (.refl _) .nil)) h (Own.v _) ?_).val
  simp only [go_sem]
  repeat (first | ((with_reducible refine AWp.ofC ?_ ?_); (focus exact rfl); simp only [go_sem, Int.reduceNeg]) | ((with_reducible refine an ?_ ?_); focus exact Au))
  refine ret_eq ?_; simp only [go_sem]
theorem rows_delete (b cap : Nat) (xs : List (List Int)) (ws : List AV) (hl : xs.length ≤ 1000000) (g : AV) (hgf : AL.fo g = (True, g)) (p : List Int → Bool) (hg : ∀ x ∈ xs, PV Go.Proofs.Tryz.prog g [aInts x] (ab (p x))) :
    MCalls Go.Proofs.Tryz.prog 69 [.ls b 1 0 xs.length cap, g] [(b, .row 43 1 (xs.map aInts ++ ws) cap)] fun r L' => OwnS (xs.filter fun x => !p x) r L' := by
  have hIx := rows_indexFunc xs hl g hgf p hg
  refine MCalls.enter' 42 [.tmp 4] [] Go.Proofs.Tryz.func69 rfl rfl rfl rfl rfl (by simp) (AWp.of ?_); simp only [go_sem]
  refine AWp.capOk (b := b) (if_pos rfl) fun hcap => ?_
  rw [List.length_append, List.length_map] at hcap
  repeat (first | ((with_reducible refine AWp.ofC ?_ ?_); (focus exact rfl); simp only [go_sem, hgf]) | ((with_reducible refine an ?_ ?_); focus exact Au))
  have hvw : Vw [(b, .row 43 1 (xs.map aInts ++ ws) cap)] (.ls b 1 0 xs.length cap) (aRows xs) := Vw.front (xs := xs.map aInts) (ws := ws) (if_pos rfl) (by rw [List.length_map])
  refine (PC.view (Vws.cons hvw (Vws.cons (.refl _) .nil)) hIx (Own.v _) ?_).val
  cases h : xs.findIdx? p with
  | none =>
    simp only [go_sem]
    repeat (first | ((with_reducible refine AWp.ofC ?_ ?_); (focus exact rfl); simp only [go_sem, Int.reduceNeg]) | ((with_reducible refine an ?_ ?_); focus exact Au))
    refine ret_own ?_
    simp only [go_sem]
    have e : (xs.filter fun x => !p x) = xs := List.filter_eq_self.2 fun x hx => by rw [List.findIdx?_eq_none_iff] at h; rw [h x hx]; rfl
    rw [e]
    exact .inr ⟨b, cap, ws, rfl, rfl⟩
  | some i0 =>
    rw [List.findIdx?_eq_some_iff_getElem] at h
    obtain ⟨hi0, hp0, hbe⟩ := h
    have hF0 : xs.take i0 = (xs.take (i0 + 1)).filter fun x => !p x := by
      rw [List.take_succ_eq_append_getElem hi0, List.filter_append, List.filter_eq_self.2]
      · simp [hp0]
      · intro x hx
        obtain ⟨j, hj, rfl⟩ := List.getElem_of_mem hx
        rw [List.getElem_take]
        rw [List.length_take] at hj
        have := hbe j (by omega)
        simpa using this
    have hn1 : ¬ ((i0 : Int) = -1) := by omega
    simp only [go_sem]
    repeat (first | ((with_reducible refine AWp.ofC ?_ ?_); (focus exact rfl); simp only [go_sem, hn1]) | ((with_reducible refine an ?_ ?_); focus exact Au))
    refine AWp.block (AWp.loopN [5, 6] [0, 1] (fun m vs L => ∃ (j : Nat) (F zs : List (List Int)), vs = [ai F.length, ai j] ∧ j ≤ xs.length ∧ (F = (xs.take j).filter fun x => !p x) ∧ F.length < j ∧ zs = F ++ xs.drop F.length ∧ m = xs.length - j ∧
      L = [(b, .row 43 1 (zs.map aInts ++ ws) cap)]) (xs.length - (i0 + 1)) ⟨i0 + 1, xs.take i0, xs, by rw [List.length_take, Nat.min_eq_left (by omega)]; rfl, by omega, hF0, by rw [List.length_take]; omega, by rw [List.length_take, Nat.min_eq_left (by omega), List.take_append_drop], rfl, rfl⟩ ?_)
    rintro m vs L - ⟨j, F, zs, rfl, hj, hF, hFj, hz, rfl, rfl⟩
    have zl : zs.length = xs.length := by rw [hz, List.length_append, List.length_drop]; omega
    have hzl : (zs.map aInts ++ ws).length = xs.length + ws.length := by rw [List.length_append, List.length_map, zl]
    simp only [go_sem]
    repeat (first | ((with_reducible refine AWp.ofC ?_ ?_); (focus exact rfl); simp only [go_sem]) | ((with_reducible refine an ?_ ?_); focus exact Au))
    refine ⟨fun h1 => ?_, fun h1 => ?_⟩
    · have hjx : j < xs.length := by omega
      have g1 : (zs.map aInts ++ ws).getD j .any = aInts xs[j] := by
        rw [getD_app (by rw [List.length_map]; omega), getD_map (by omega)]
        subst hz
        rw [List.getElem_append_right (by omega), List.getElem_drop]
        congr 2; omega
      have hgj := hg xs[j] (List.getElem_mem hjx)
      have hst : ((xs.take (j + 1)).filter fun x => !p x) = F ++ if p xs[j] = true then [] else [xs[j]] := by
        rw [List.take_succ_eq_append_getElem hjx, List.filter_append, ← hF]
        cases hpj : p xs[j] <;> simp [hpj]
      repeat (first | ((with_reducible refine AWp.ofC ?_ ?_); (focus exact rfl); simp only [go_sem, g1, hgf, hzl]) | ((with_reducible refine an ?_ ?_); focus exact Au))
      repeat ((with_reducible refine an ?_ ?_); focus exact As)
      refine (hgj).use ?_; simp only [go_sem]
      repeat (first | ((with_reducible refine AWp.ofC ?_ ?_); (focus exact rfl); simp only [go_sem, hzl]) | ((with_reducible refine an ?_ ?_); focus exact Au))
      refine ⟨fun h2 => ?_, fun h2 => ?_⟩
      · rw [if_neg (by rw [h2]; decide)] at hst
        have g0 : (zs.map aInts ++ ws).getD F.length .any = aInts (zs[F.length]'(by omega)) := by rw [getD_app (by rw [List.length_map]; omega), getD_map (by omega)]
        repeat (first | ((with_reducible refine AWp.ofC ?_ ?_); (focus exact rfl); simp only [go_sem, g0]) | ((with_reducible refine an ?_ ?_); focus exact Au))
        refine ⟨_, List.Sublist.refl _, _, ?_, j + 1, F ++ [xs[j]], zs.set F.length xs[j], ?_, by omega, hst.symm, by simp; omega, ?_, rfl, ?_⟩
        · omega
        · rw [List.length_append]; rfl
        · rw [hz, List.set_append_right _ _ (Nat.le_refl _), Nat.sub_self, List.drop_eq_getElem_cons (show F.length < xs.length by omega), List.set_cons_zero, List.append_assoc, List.length_append]; rfl
        · rw [List.map_set, List.set_append_left _ _ (by rw [List.length_map]; omega)]; rfl
      · rw [if_pos h2, List.append_nil] at hst
        repeat (first | ((with_reducible refine AWp.ofC ?_ ?_); (focus exact rfl); simp only [go_sem]) | ((with_reducible refine an ?_ ?_); focus exact Au))
        exact ⟨_, List.Sublist.refl _, _, by omega, j + 1, F, zs, rfl, by omega, hst.symm, by omega, hz, rfl, rfl⟩
    · have hje : j = xs.length := by omega
      rw [hje, List.take_length] at hF
      repeat (first | ((with_reducible refine AWp.ofC ?_ ?_); (focus exact rfl); simp only [go_sem, hzl]) | ((with_reducible refine an ?_ ?_); focus exact Au))
      refine ret_own ?_
      simp only [go_sem]
      have ht : (zs.map aInts ++ ws).take F.length = F.map aInts := by rw [hz, List.map_append, List.append_assoc, List.take_left' (List.length_map _)]
      rw [← hF, ht, List.append_assoc]
      exact .inr ⟨b, cap, _, rfl, rfl⟩
/-! What is no cut. -/
noncomputable def chkE (ps : List Pr) (l : List (List Int)) : Int := if validF ps = true then (if (l.any fun c => !isF ps c) = true then 18 else 0) else 1
theorem cuts_checked1 (ps : List Pr) (hs : Sm ps) (c : List Int) : PC Go.Proofs.Tryz.prog 98 [aInts c, .rp 1 [aTr ps] 0 0] (ab (!decide (givenF ps [c] [] = 0))) := by
  have h := cut_Consistent ps hs c
  generalize givenF ps [c] [] = e at *
  refine PC.enter 8 [.tmp 3] [] Go.Proofs.Tryz.func98 rfl rfl rfl rfl rfl (by simp) (AWp.of ?_); simp only [go_sem]
  repeat (first | ((with_reducible refine AWp.ofC ?_ ?_); (focus exact rfl); simp only [go_sem]) | ((with_reducible refine an ?_ ?_); focus exact Au))
  repeat ((with_reducible refine an ?_ ?_); focus exact As)
  refine (h).val.use ?_; simp only [go_sem]
  repeat (first | ((with_reducible refine AWp.ofC ?_ ?_); (focus exact rfl); simp only [go_sem]) | ((with_reducible refine an ?_ ?_); focus exact Au))
  refine ret_eq ?_; simp only [go_sem]
theorem cuts_checked (ps : List Pr) (hs : Sm ps) (l : List (List Int)) (hl : l.length ≤ 1000000) : PC Go.Proofs.Tryz.prog 66 [aTr ps, aRows l] (ai (chkE ps l)) := by
  have h1 := trace_Valid ps hs
  have h2 := rows_containsFunc l hl (.clo 98 [.rp 1 [aTr ps] 0 0]) rfl (fun c => !decide (givenF ps [c] [] = 0)) fun c _ => (cuts_checked1 ps hs c).clo
  have hR : ∀ x : List (List Int), aRows x = .sl 1 (x.map aInts) := fun _ => rfl
  unfold chkE
  cases hv : validF ps with
  | false =>
    rw [hv] at h1
    refine PC.enter 11 [.tmp 4] [2] Go.Proofs.Tryz.func66 rfl rfl rfl rfl rfl (by simp) (AWp.of ?_); simp only [go_sem]
    repeat (first | ((with_reducible refine AWp.ofC ?_ ?_); (focus exact rfl); simp only [go_sem]) | ((with_reducible refine an ?_ ?_); focus exact Au))
    repeat ((with_reducible refine an ?_ ?_); focus exact As)
    refine (h1).val.use ?_; simp only [go_sem]
    repeat (first | ((with_reducible refine AWp.ofC ?_ ?_); (focus exact rfl); simp only [go_sem]) | ((with_reducible refine an ?_ ?_); focus exact Au))
    refine ret_eq ?_; simp only [go_sem]
  | true =>
    have he : (fun c => !decide (givenF ps [c] [] = 0)) = fun c => !isF ps c := funext fun c => by rw [given_isF hv]
    rw [he] at h2
    rw [hv] at h1
    rw [if_pos rfl]
    generalize (l.any fun c => !isF ps c) = bad at *
    rw [hR] at *
    refine PC.enter 11 [.tmp 4] [2] Go.Proofs.Tryz.func66 rfl rfl rfl rfl rfl (by simp) (AWp.of ?_); simp only [go_sem]
    repeat (first | ((with_reducible refine AWp.ofC ?_ ?_); (focus exact rfl); simp only [go_sem]) | ((with_reducible refine an ?_ ?_); focus exact Au))
    repeat ((with_reducible refine an ?_ ?_); focus exact As)
    refine (h1).val.use ?_; simp only [go_sem]
    repeat (first | ((with_reducible refine AWp.ofC ?_ ?_); (focus exact rfl); simp only [go_sem]) | ((with_reducible refine an ?_ ?_); focus exact Au))
    repeat ((with_reducible refine an ?_ ?_); focus exact As)
    refine (h2).val.use ?_; simp only [go_sem]
    repeat (first | ((with_reducible refine AWp.ofC ?_ ?_); (focus exact rfl); simp only [go_sem]) | ((with_reducible refine an ?_ ?_); focus exact Au))
    refine ⟨fun h => ?_, fun h => ?_⟩
    · repeat (first | ((with_reducible refine AWp.ofC ?_ ?_); (focus exact rfl); simp only [go_sem]) | ((with_reducible refine an ?_ ?_); focus exact Au))
      refine ret_eq ?_; simp only [go_sem]
      rw [h]; rfl
    · repeat (first | ((with_reducible refine AWp.ofC ?_ ?_); (focus exact rfl); simp only [go_sem]) | ((with_reducible refine an ?_ ?_); focus exact Au))
      refine ret_eq ?_; simp only [go_sem]
      rw [h]; rfl
end Go.AL
end
section
/- The package cuts: Find, Between. No condition. -/
namespace Go.AL
open Go Go.RowKit
set_option maxRecDepth 4000
def idxF (l : List (List Int)) (c : List Int) : Int := match l.findIdx? fun d => decide (c = d) with | some i => (i : Int) | none => -1
noncomputable def fndE (ps : List Pr) (l : List (List Int)) : Int := if chkE ps l ≠ 0 then chkE ps l else lstE ps
noncomputable def fndI (ps : List Pr) (c : List Int) : Int := if fndE ps [c] = 0 then idxF (cutsF ps) c else 0
noncomputable def btwF (ps : List Pr) (a b : List Int) : List (List Int) := if fndE ps [a, b] = 0 then (cutsF ps).filter fun c => leqF a c && leqF c b else []
theorem chk_zero {ps : List Pr} {l : List (List Int)} : chkE ps l = 0 ↔ validF ps = true ∧ ∀ c ∈ l, isF ps c = true := by
  unfold chkE
  cases hv : validF ps with
  | false => simp
  | true =>
    simp only [if_true, true_and]
    split
    · rename_i h
      rw [List.any_eq_true] at h
      obtain ⟨c, hc, h⟩ := h
      refine ⟨fun h => absurd h (by decide), fun g => ?_⟩
      rw [g c hc] at h; cases h
    · rename_i h
      refine ⟨fun _ c hc => ?_, fun _ => rfl⟩
      cases hi : isF ps c with
      | true => rfl
      | false => exact absurd (List.any_eq_true.2 ⟨c, hc, by rw [hi]; rfl⟩) h
theorem fnd_zero {ps : List Pr} {l : List (List Int)} : fndE ps l = 0 ↔ (∀ c ∈ l, isF ps c = true) ∧ lstE ps = 0 := by
  unfold fndE
  split
  · rename_i h
    refine ⟨fun h' => absurd h' h, fun ⟨h1, h2⟩ => absurd (chk_zero.2 ⟨(lst_zero.1 h2).1, h1⟩) h⟩
  · rename_i h
    have := chk_zero.1 (Classical.not_not.1 h)
    exact ⟨fun g => ⟨this.2, g⟩, fun g => g.2⟩
theorem cuts_Find1 (c d : List Int) (hc : c.length ≤ 1000000) : PC Go.Proofs.Tryz.prog 68 [aInts d, .rp 1 [aInts c] 0 0] (ab (decide (c = d))) := by
  have h := ints_equal c d hc
  generalize decide (c = d) = e at *
  refine PC.enter 7 [.tmp 3] [] Go.Proofs.Tryz.func68 rfl rfl rfl rfl rfl (by simp) (AWp.of ?_); simp only [go_sem]
  repeat (first | ((with_reducible refine AWp.ofC ?_ ?_); (focus exact rfl); simp only [go_sem]) | ((with_reducible refine an ?_ ?_); focus exact Au))
  repeat ((with_reducible refine an ?_ ?_); focus exact As)
  refine (h).val.use ?_; simp only [go_sem]
  repeat (first | ((with_reducible refine AWp.ofC ?_ ?_); (focus exact rfl); simp only [go_sem]) | ((with_reducible refine an ?_ ?_); focus exact Au))
  refine ret_eq ?_; simp only [go_sem]
theorem cuts_Find (ps : List Pr) (hs : Sm ps) (c : List Int) : PC Go.Proofs.Tryz.prog 24 [aTr ps, aInts c] (.tup [ai (fndI ps c), ai (fndE ps [c])]) := by
  have h1 := cuts_checked ps hs [c] (by simp)
  have h2 := cuts_list ps hs
  have hR : ∀ x : List (List Int), aRows x = .sl 1 (x.map aInts) := fun _ => rfl
  have hc8 : fndE ps [c] = 0 → c.length ≤ 1000000 ∧ lstF ps = cutsF ps := fun h => by
    obtain ⟨g1, g2⟩ := fnd_zero.1 h
    have := (isF_iff.1 (g1 c (by simp))).1
    have h8 := (valid_len (lst_zero.1 g2).1).2
    exact ⟨by omega, by unfold lstF; rw [if_pos g2]⟩
  have h3 := fun h => rows_indexFunc (cutsF ps) (by have := (fnd_zero.1 h).2; have := (lst_zero.1 this).2; omega) (.clo 68 [.rp 1 [aInts c] 0 0]) rfl (fun d => decide (c = d)) fun d _ => (cuts_Find1 c d (hc8 h).1).clo
  have h4 : ∀ n, (match (cutsF ps).findIdx? fun d => decide (c = d) with | some i => (i : Int) | none => -1) = n ↔ idxF (cutsF ps) c = n := fun n => Iff.rfl
  unfold aLst at h2
  unfold fndI
  have hE : fndE ps [c] = if chkE ps [c] ≠ 0 then chkE ps [c] else lstE ps := rfl
  by_cases hk : chkE ps [c] = 0
  · rw [if_neg (by simpa using hk)] at hE
    rw [hk] at h1
    by_cases hl : lstE ps = 0
    · rw [hl] at hE
      have h3 := h3 hE
      rw [hE, if_pos rfl]
      rw [(hc8 hE).2, hl] at h2
      change PC _ _ _ (ai (idxF (cutsF ps) c)) at h3
      generalize idxF (cutsF ps) c = n at *
      generalize cutsF ps = cs at *
      rw [hR] at *
      simp only [List.map_cons, List.map_nil] at h1
      refine PC.enter 27 [.tmp 4, .tmp 5] [2, 3, 11] Go.Proofs.Tryz.func24 rfl rfl rfl rfl rfl (by simp) (AWp.of ?_); simp only [go_sem]
      repeat (first | ((with_reducible refine AWp.ofC ?_ ?_); (focus exact rfl); simp only [go_sem]) | ((with_reducible refine an ?_ ?_); focus exact Au))
      repeat ((with_reducible refine an ?_ ?_); focus exact As)
      refine (h1).val.use ?_; simp only [go_sem]
      repeat (first | ((with_reducible refine AWp.ofC ?_ ?_); (focus exact rfl); simp only [go_sem]) | ((with_reducible refine an ?_ ?_); focus exact Au))
      repeat ((with_reducible refine an ?_ ?_); focus exact As)
      refine (h2).val.use ?_; simp only [go_sem]
      repeat (first | ((with_reducible refine AWp.ofC ?_ ?_); (focus exact rfl); simp only [go_sem]) | ((with_reducible refine an ?_ ?_); focus exact Au))
      repeat ((with_reducible refine an ?_ ?_); focus exact As)
      refine (h3).val.use ?_; simp only [go_sem]
      repeat (first | ((with_reducible refine AWp.ofC ?_ ?_); (focus exact rfl); simp only [go_sem]) | ((with_reducible refine an ?_ ?_); focus exact Au))
      refine ret_eq ?_; simp only [go_sem]
    · rw [hE, if_neg hl]
      generalize lstE ps = e at *
      generalize lstF ps = cs at *
      rw [hR] at *
      simp only [List.map_cons, List.map_nil] at h1
      refine PC.enter 27 [.tmp 4, .tmp 5] [2, 3, 11] Go.Proofs.Tryz.func24 rfl rfl rfl rfl rfl (by simp) (AWp.of ?_); simp only [go_sem]
      repeat (first | ((with_reducible refine AWp.ofC ?_ ?_); (focus exact rfl); simp only [go_sem]) | ((with_reducible refine an ?_ ?_); focus exact Au))
      repeat ((with_reducible refine an ?_ ?_); focus exact As)
      refine (h1).val.use ?_; simp only [go_sem]
      repeat (first | ((with_reducible refine AWp.ofC ?_ ?_); (focus exact rfl); simp only [go_sem]) | ((with_reducible refine an ?_ ?_); focus exact Au))
      repeat ((with_reducible refine an ?_ ?_); focus exact As)
      refine (h2).val.use ?_; simp only [go_sem]
      repeat (first | ((with_reducible refine AWp.ofC ?_ ?_); (focus exact rfl); simp only [go_sem, hl]) | ((with_reducible refine an ?_ ?_); focus exact Au))
      refine ret_eq ?_; simp only [go_sem]
  · rw [if_pos hk] at hE
    rw [hE, if_neg hk]
    generalize chkE ps [c] = e at *
    rw [hR] at *
    simp only [List.map_cons, List.map_nil] at h1
    refine PC.enter 27 [.tmp 4, .tmp 5] [2, 3, 11] Go.Proofs.Tryz.func24 rfl rfl rfl rfl rfl (by simp) (AWp.of ?_); simp only [go_sem]
    repeat (first | ((with_reducible refine AWp.ofC ?_ ?_); (focus exact rfl); simp only [go_sem]) | ((with_reducible refine an ?_ ?_); focus exact Au))
    repeat ((with_reducible refine an ?_ ?_); focus exact As)
    refine (h1).val.use ?_; simp only [go_sem]
    repeat (first | ((with_reducible refine AWp.ofC ?_ ?_); (focus exact rfl); simp only [go_sem, hk]) | ((with_reducible refine an ?_ ?_); focus exact Au))
    refine ret_eq ?_; simp only [go_sem]
theorem cuts_Between1 (a b c : List Int) (ha : a.length ≤ 1000000) (hc : c.length ≤ 1000000) : PC Go.Proofs.Tryz.prog 70 [aInts c, .rp 1 [aInts a] 0 0, .rp 1 [aInts b] 0 0] (ab (!(leqF a c && leqF c b))) := by
  have h := cut_Leq a c ha
  have h2 := cut_Leq c b hc
  generalize leqF a c = e at *
  generalize leqF c b = f at *
  refine PC.enter 15 [.tmp 4] [] Go.Proofs.Tryz.func70 rfl rfl rfl rfl rfl (by simp) (AWp.of ?_); simp only [go_sem]
  repeat (first | ((with_reducible refine AWp.ofC ?_ ?_); (focus exact rfl); simp only [go_sem]) | ((with_reducible refine an ?_ ?_); focus exact Au))
  repeat ((with_reducible refine an ?_ ?_); focus exact As)
  refine (h).val.use ?_; simp only [go_sem]
  repeat (first | ((with_reducible refine AWp.ofC ?_ ?_); (focus exact rfl); simp only [go_sem]) | ((with_reducible refine an ?_ ?_); focus exact Au))
  repeat ((with_reducible refine an ?_ ?_); focus exact As)
  refine GCall.use (ab f) (fun _ => ⟨At, (h2).val.use ⟨rfl, rfl⟩⟩) ?_; simp only [go_sem]
  repeat (first | ((with_reducible refine AWp.ofC ?_ ?_); (focus exact rfl); simp only [go_sem]) | ((with_reducible refine an ?_ ?_); focus exact Au))
  refine ret_eq ?_; simp only [go_sem]
  cases e <;> rfl
theorem cuts_Between (ps : List Pr) (hs : Sm ps) (a b : List Int) : PC Go.Proofs.Tryz.prog 25 [aTr ps, aInts a, aInts b] (.tup [aRows (btwF ps a b), ai (fndE ps [a, b])]) := by
  have h1 := cuts_checked ps hs [a, b] (by simp)
  have h2 := cuts_listO ps hs
  have hR : ∀ x : List (List Int), aRows x = .sl 1 (x.map aInts) := fun _ => rfl
  have hE : fndE ps [a, b] = if chkE ps [a, b] ≠ 0 then chkE ps [a, b] else lstE ps := rfl
  unfold btwF
  by_cases hk : chkE ps [a, b] = 0
  · rw [if_neg (by simpa using hk)] at hE
    rw [hk] at h1
    by_cases hl : lstE ps = 0
    · rw [hl] at hE
      rw [hE, if_pos rfl]
      obtain ⟨g1, g2⟩ := fnd_zero.1 hE
      obtain ⟨hv, h5⟩ := lst_zero.1 g2
      have h8 := (valid_len hv).2
      have hal := (isF_iff.1 (g1 a (by simp))).1
      have hL : lstF ps = cutsF ps := by unfold lstF; rw [if_pos g2]
      rw [hL, hl] at h2
      have hg : ∀ c ∈ cutsF ps, PV Go.Proofs.Tryz.prog (.clo 70 [.rp 1 [aInts a] 0 0, .rp 1 [aInts b] 0 0]) [aInts c] (ab (!(leqF a c && leqF c b))) := fun c hc =>
        (cuts_Between1 a b c (by omega) (by have := (isF_iff.1 ((mem_cutsF hv).1 hc)).1; omega)).clo
      have hfl : ((cutsF ps).filter fun c => !!(leqF a c && leqF c b)) = (cutsF ps).filter fun c => leqF a c && leqF c b := by congr 1; funext c; rw [Bool.not_not]
      have hdel := fun (bb cap : Nat) (ws : List AV) => rows_delete bb cap (cutsF ps) ws (by omega) _ rfl (fun c => !(leqF a c && leqF c b)) hg
      rw [hfl] at hdel
      have hdn := rows_delete_nil (.clo 70 [.rp 1 [aInts a] 0 0, .rp 1 [aInts b] 0 0]) rfl
      have hfn : cutsF ps = [] → ((cutsF ps).filter fun c => leqF a c && leqF c b) = [] := fun h => by rw [h]; rfl
      generalize ((cutsF ps).filter fun c => leqF a c && leqF c b) = fs at *
      generalize cutsF ps = cs at *
      rw [hR] at *
      simp only [List.map_cons, List.map_nil] at h1
      refine PC.enter 30 [.tmp 6, .tmp 7] [3, 4, 5, 14] Go.Proofs.Tryz.func25 rfl rfl rfl rfl rfl (by simp) (AWp.of ?_); simp only [go_sem]
      repeat (first | ((with_reducible refine AWp.ofC ?_ ?_); (focus exact rfl); simp only [go_sem]) | ((with_reducible refine an ?_ ?_); focus exact Au))
      repeat ((with_reducible refine an ?_ ?_); focus exact As)
      refine (h1).val.use ?_; simp only [go_sem]
      repeat (first | ((with_reducible refine AWp.ofC ?_ ?_); (focus exact rfl); simp only [go_sem]) | ((with_reducible refine an ?_ ?_); focus exact Au))
      refine h2.val.mono ?_
      rintro r L ⟨v, rfl, hO⟩
      rcases hO with ⟨e0, rfl, rfl⟩ | ⟨bb, cap, ws, rfl, rfl⟩
      · rw [hfn e0]
        simp only [go_sem]
        repeat (first | ((with_reducible refine AWp.ofC ?_ ?_); (focus exact rfl); simp only [go_sem]) | ((with_reducible refine an ?_ ?_); focus exact Au))
        repeat ((with_reducible refine an ?_ ?_); focus exact As)
        refine (hdn).val.use ?_; simp only [go_sem]
        repeat (first | ((with_reducible refine AWp.ofC ?_ ?_); (focus exact rfl); simp only [go_sem]) | ((with_reducible refine an ?_ ?_); focus exact Au))
        refine ret_view [] ?_; simp only [go_sem]
        exact .mkTup (Vws.cons (.nil 1) (Vws.refl _))
      · simp only [go_sem]
        repeat (first | ((with_reducible refine AWp.ofC ?_ ?_); (focus exact rfl); simp only [go_sem]) | ((with_reducible refine an ?_ ?_); focus exact Au))
        refine (hdel bb cap ws).val.mono ?_
        rintro r L hO
        rcases hO with ⟨e0, rfl, rfl⟩ | ⟨bb, cap, ws, rfl, rfl⟩
        · simp only [go_sem]
          repeat (first | ((with_reducible refine AWp.ofC ?_ ?_); (focus exact rfl); simp only [go_sem]) | ((with_reducible refine an ?_ ?_); focus exact Au))
          refine ret_view [] ?_; simp only [go_sem]
          rw [e0]
          exact .mkTup (Vws.cons (.nil 1) (Vws.refl _))
        · simp only [go_sem]
          repeat (first | ((with_reducible refine AWp.ofC ?_ ?_); (focus exact rfl); simp only [go_sem]) | ((with_reducible refine an ?_ ?_); focus exact Au))
          refine ret_view [true] ?_; simp only [go_sem]
          exact .mkTup (Vws.cons (Vw.front (if_pos rfl) (by rw [List.length_map])) (Vws.refl _))
    · rw [hE, if_neg hl]
      generalize lstE ps = e at *
      generalize lstF ps = cs at *
      rw [hR] at *
      simp only [List.map_cons, List.map_nil] at h1
      refine PC.enter 30 [.tmp 6, .tmp 7] [3, 4, 5, 14] Go.Proofs.Tryz.func25 rfl rfl rfl rfl rfl (by simp) (AWp.of ?_); simp only [go_sem]
      repeat (first | ((with_reducible refine AWp.ofC ?_ ?_); (focus exact rfl); simp only [go_sem]) | ((with_reducible refine an ?_ ?_); focus exact Au))
      repeat ((with_reducible refine an ?_ ?_); focus exact As)
      refine (h1).val.use ?_; simp only [go_sem]
      repeat (first | ((with_reducible refine AWp.ofC ?_ ?_); (focus exact rfl); simp only [go_sem]) | ((with_reducible refine an ?_ ?_); focus exact Au))
      refine h2.val.mono ?_
      rintro r L ⟨v, rfl, hO⟩
      rcases hO with ⟨e0, rfl, rfl⟩ | ⟨bb, cap, ws, rfl, rfl⟩
      · simp only [go_sem]
        repeat (first | ((with_reducible refine AWp.ofC ?_ ?_); (focus exact rfl); simp only [go_sem, hl]) | ((with_reducible refine an ?_ ?_); focus exact Au))
        refine ret_view [] ?_; simp only [go_sem]
        exact .mkTup (Vws.cons (.nil 1) (Vws.refl _))
      · simp only [go_sem]
        repeat (first | ((with_reducible refine AWp.ofC ?_ ?_); (focus exact rfl); simp only [go_sem, hl]) | ((with_reducible refine an ?_ ?_); focus exact Au))
        refine ret_view [false] ?_; simp only [go_sem]
        exact .mkTup (Vws.cons (.nil 1) (Vws.refl _))
  · rw [if_pos hk] at hE
    rw [hE, if_neg hk]
    generalize chkE ps [a, b] = e at *
    rw [hR] at *
    simp only [List.map_cons, List.map_nil] at h1
    refine PC.enter 30 [.tmp 6, .tmp 7] [3, 4, 5, 14] Go.Proofs.Tryz.func25 rfl rfl rfl rfl rfl (by simp) (AWp.of ?_); simp only [go_sem]
    repeat (first | ((with_reducible refine AWp.ofC ?_ ?_); (focus exact rfl); simp only [go_sem]) | ((with_reducible refine an ?_ ?_); focus exact Au))
    repeat ((with_reducible refine an ?_ ?_); focus exact As)
    refine (h1).val.use ?_; simp only [go_sem]
    repeat (first | ((with_reducible refine AWp.ofC ?_ ?_); (focus exact rfl); simp only [go_sem, hk]) | ((with_reducible refine an ?_ ?_); focus exact Au))
    refine ret_view [] ?_; simp only [go_sem]
    exact .mkTup (Vws.cons (.nil 1) (Vws.refl _))
end Go.AL
end
section
/- A rewritten tree says at the rest of a cut what the tree says at the cut. Plain laws. No condition. -/
namespace Go.AL
open Go Go.RowKit
set_option maxRecDepth 4000
section
variable {ps : List Pr} {c : List Int}
/-! ### Values -/
variable {j : List Int} {ch : Int → Int → Int}
end
end Go.AL
end
section
/- Detection goes on after dropping. Plain laws. No condition. -/
namespace Go.AL
open Go Go.RowKit
set_option maxRecDepth 4000
section
variable {ps : List Pr} {c : List Int}
/-! ### Cuts of the dropped trace -/
end
end Go.AL
end
section
/- The cuts that contain what was dropped remain: plain laws. No condition. -/
namespace Go.AL
open Go Go.RowKit
set_option maxRecDepth 4000
/-! ### The order of the list of cuts -/
def ordL (a b : List Int) : Prop := a.sum < b.sum ∨ (a.sum = b.sum ∧ cmpL a b < 0)
/-! ### Dropping twice -/
end Go.AL
end
section
/- The lattice of cuts, plainly. No condition. -/
namespace Go.AL
open Go Go.RowKit
set_option maxRecDepth 4000
def meetL (c d : List Int) : List Int := List.zipWith (fun x y => if y < x then y else x) c d
theorem leq_iff_at {a b : List Int} : leqF a b = true ↔ a.length = b.length ∧ ∀ p : Nat, p < a.length → cAt a p ≤ cAt b p := leqF_iff
section
variable {A : List (List Int)} (hA : A.Pairwise ordL)
include hA
end
structure LatD (ps : List Pr) (A : List (List Int)) (i j : Nat) (a b u d : List Int) : Prop where
  is : isF ps a = true ∧ isF ps b = true ∧ isF ps u = true ∧ isF ps d = true
  bef : i < j → befF a b = true
  ia : idxF A a = i
  iu : ∃ m : Nat, idxF A u = m ∧ i ≤ m ∧ j ≤ m
  id : ∃ m : Nat, idxF A d = m ∧ m ≤ i ∧ m ≤ j
  btw : ∀ c, c = a ∨ c = b ∨ c = u ∨ c = d → c ∈ A.filter fun x => leqF d x && leqF x u
  sum : 0 ≤ a.sum ∧ a.sum ≤ off ps ps.length
  lev : a ∈ levF ps a.sum.toNat
  zero : a.sum = 0 → i = 0 ∧ (levF ps a.sum.toNat).length = 1
  low : 0 < a.sum → ∃ x ∈ levF ps (a.sum - 1).toNat, x.length = a.length ∧ leqF x a = true
end Go.AL
end
section
/- Words of bits; rows of a relation. Plain laws. No condition. -/
namespace Go.AL
open Go Go.RowKit
set_option maxRecDepth 4000
abbrev au64 (n : Int) : AV := .v (.int .u64 n)
/-- The w-th word of the numbers below j for which f holds. -/
def wordOf (f : Nat → Bool) (w : Nat) : Nat → Nat
  | 0 => 0
  | j + 1 => if f j = true ∧ j / 64 = w then wordOf f w j + 2 ^ (j % 64) else wordOf f w j
theorem word_zero {f : Nat → Bool} {w : Nat} : ∀ {j : Nat}, j ≤ 64 * w → wordOf f w j = 0
  | 0, _ => rfl
  | j + 1, h => by
    unfold wordOf
    rw [if_neg (by omega)]
    exact word_zero (by omega)
theorem word_lt {f : Nat → Bool} : ∀ {j : Nat}, wordOf f (j / 64) j < 2 ^ (j % 64)
  | 0 => by show (0 : Nat) < 2 ^ (0 % 64); decide
  | j + 1 => by
    have ih := word_lt (f := f) (j := j)
    by_cases h : (j + 1) % 64 = 0
    · rw [word_zero (by omega), h]; decide
    · have e1 : (j + 1) / 64 = j / 64 := by omega
      have e2 : (j + 1) % 64 = j % 64 + 1 := by omega
      rw [e1, e2, Nat.pow_succ]
      unfold wordOf
      split <;> omega
theorem word_congr {f g : Nat → Bool} {w : Nat} : ∀ {j : Nat}, (∀ i, i < j → f i = g i) → wordOf f w j = wordOf g w j
  | 0, _ => rfl
  | j + 1, h => by
    unfold wordOf
    rw [h j (by omega), word_congr fun i hi => h i (by omega)]
def nW (n : Nat) : Nat := (n + 63) / 64
def wordsF (f : Nat → Bool) (n j : Nat) : List Nat := (List.range (nW n)).map fun w => wordOf f w j
theorem words_len (f : Nat → Bool) (n j : Nat) : (wordsF f n j).length = nW n := by simp [wordsF]
theorem words_get {f : Nat → Bool} {n j i : Nat} (h : i < nW n) : (wordsF f n j)[i]? = some (wordOf f i j) := by
  unfold wordsF; rw [List.getElem?_map, List.getElem?_range h]; rfl
theorem words_zero (f : Nat → Bool) (n : Nat) : wordsF f n 0 = List.replicate (nW n) 0 := by
  apply List.ext_getElem?
  intro i
  by_cases h : i < nW n
  · rw [words_get h, List.getElem?_replicate, if_pos h]; rfl
  · rw [List.getElem?_eq_none (by rw [words_len]; omega), List.getElem?_eq_none (by rw [List.length_replicate]; omega)]
theorem words_no {f : Nat → Bool} {n j : Nat} (h : f j = false) : wordsF f n (j + 1) = wordsF f n j := by
  unfold wordsF
  refine List.map_congr_left fun w _ => ?_
  conv => lhs; unfold wordOf
  rw [if_neg (by rw [h]; simp)]
theorem words_set {f : Nat → Bool} {n j : Nat} (h : f j = true) : wordsF f n (j + 1) = (wordsF f n j).set (j / 64) (wordOf f (j / 64) j + 2 ^ (j % 64)) := by
  apply List.ext_getElem?
  intro i
  rw [List.getElem?_set]
  by_cases hi : i < nW n
  · rw [words_get hi, words_len]
    conv => lhs; unfold wordOf
    by_cases e : j / 64 = i
    · rw [if_pos ⟨h, e⟩, if_pos e, if_pos (by omega), e]
    · rw [if_neg (fun g => e g.2), if_neg e, words_get hi]
  · rw [List.getElem?_eq_none (by rw [words_len]; omega)]
    split
    · rw [words_len, if_neg (by omega)]
    · rw [List.getElem?_eq_none (by rw [words_len]; omega)]
theorem words_congr {f g : Nat → Bool} {n j : Nat} (h : ∀ i, i < j → f i = g i) : wordsF f n j = wordsF g n j := by
  unfold wordsF
  exact List.map_congr_left fun w _ => word_congr h
/-! What the machine reckons. -/
theorem quo64 (j : Nat) (h : j ≤ 1000000) : IntKind.i64.wrap ((j : Int).tdiv 64) = ((j / 64 : Nat) : Int) := by
  have : (j : Int).tdiv 64 = ((j / 64 : Nat) : Int) := rfl
  rw [this]
  exact IntWalk.i64_in _ (by omega)
theorem rem64 (j : Nat) : (j : Int).tmod 64 = ((j % 64 : Nat) : Int) := rfl
theorem wrap_u64n {x : Nat} (h : x < 2 ^ 64) : IntKind.u64.wrap (x : Int) = x := by
  rw [IntKind.wrap_u64]; omega
theorem pow_b {b : Nat} (h : b < 64) : 2 ^ b < 2 ^ 64 := Nat.pow_lt_pow_right (by decide) h
theorem shl_bit {b : Nat} (h : b < 64) : shlK .u64 1 (b : Nat) = ((2 ^ b : Nat) : Int) := by
  unfold shlK
  have : min (b : Int).toNat (IntKind.u64.bits) = b := by
    show min (b : Int).toNat 64 = b
    omega
  rw [this, Int.one_mul]
  have e : ((2 : Int) ^ b) = ((2 ^ b : Nat) : Int) := by rw [Int.natCast_pow]; rfl
  rw [e]
  exact wrap_u64n (pow_b h)
theorem add_lt {x b : Nat} (hx : x < 2 ^ b) (h : b < 64) : x + 2 ^ b < 2 ^ 64 := by
  have h2 : 2 ^ (b + 1) ≤ 2 ^ 64 := Nat.pow_le_pow_right (by decide) (by omega)
  rw [Nat.pow_succ] at h2
  omega
theorem or_bit {x b : Nat} (hx : x < 2 ^ b) (h : b < 64) : orK .u64 (x : Nat) ((2 ^ b : Nat) : Int) = ((x + 2 ^ b : Nat) : Int) := by
  have hp := pow_b h
  have hl := add_lt hx h
  unfold orK
  have e1 : ((BitVec.ofInt IntKind.u64.bits (x : Nat) ||| BitVec.ofInt IntKind.u64.bits ((2 ^ b : Nat) : Int)).toNat) = x + 2 ^ b := by
    show ((BitVec.ofInt 64 (x : Nat) ||| BitVec.ofInt 64 ((2 ^ b : Nat) : Int)).toNat) = x + 2 ^ b
    rw [BitVec.toNat_or, BitVec.ofInt_natCast, BitVec.ofInt_natCast, BitVec.toNat_ofNat, BitVec.toNat_ofNat, Nat.mod_eq_of_lt (by omega), Nat.mod_eq_of_lt hp, Nat.or_comm]
    have := Nat.two_pow_add_eq_or_of_lt hx 1
    rw [Nat.mul_one] at this
    omega
  rw [e1]
  exact wrap_u64n hl
theorem add_bit {x b : Nat} (hx : x < 2 ^ b) (h : b < 64) : IntKind.u64.wrap ((x : Nat) + ((2 ^ b : Nat) : Int)) = ((x + 2 ^ b : Nat) : Int) := by
  rw [← Int.natCast_add]
  exact wrap_u64n (add_lt hx h)
/-! The relation of inclusion. -/
def aBits (n : Nat) (ws : List Nat) : AV := .agg [ai n, .sl 1 (ws.map fun w : Nat => au64 (w : Int))]
def aRelR (n : Nat) (rs : List (List Nat)) : AV := .agg [.sl 2 (rs.map (aBits n))]
def incB (l : List (List Int)) (i j : Nat) : Bool := !decide (i = j) && leqF (l.getD i []) (l.getD j [])
def incR (l : List (List Int)) : List (List Nat) := (List.range l.length).map fun i => wordsF (incB l i) l.length l.length
def incT (l : List (List Int)) : List (List Bool) := (List.range l.length).map fun i => (List.range l.length).map fun j => incB l i j
def relT (T : List (List Bool)) : List (List Nat) := (List.range T.length).map fun i => wordsF (fun j => (T.getD i []).getD j false) T.length T.length
theorem rel_inc (l : List (List Int)) : relT (incT l) = incR l := by
  have hl : (incT l).length = l.length := by simp [incT]
  unfold relT incR
  rw [hl]
  refine List.map_congr_left fun i hi => words_congr fun j hj => ?_
  have hi := List.mem_range.1 hi
  have e1 : (incT l).getD i [] = (List.range l.length).map fun j => incB l i j := by
    unfold incT; rw [List.getD_eq_getElem?_getD, List.getElem?_map, List.getElem?_range hi]; rfl
  rw [e1, List.getD_eq_getElem?_getD, List.getElem?_map, List.getElem?_range hj]; rfl
end Go.AL
end
section
/- Irreducible cuts: the package's and the reference's. No condition. -/
namespace Go.AL
open Go Go.RowKit
set_option maxRecDepth 4000
def takC (c : List Int) (p : Nat) : List Int := c.set p (cAt c p - 1)
/-- Whether the last event of a process may be taken away. -/
def remB (ps : List Pr) (c : List Int) (p : Nat) : Bool := decide (0 < cAt c p) && isF ps (takC c p)
def remN (ps : List Pr) (c : List Int) (k : Nat) : Nat := ((List.range k).filter (remB ps c)).length
def irrF (ps : List Pr) (c : List Int) : Bool := decide (remN ps c c.length = 1)
theorem remN_succ (ps : List Pr) (c : List Int) (k : Nat) : remN ps c (k + 1) = remN ps c k + if remB ps c k = true then 1 else 0 := by
  unfold remN
  rw [List.range_succ, List.filter_append, List.length_append]
  cases h : remB ps c k <;> simp [h]
theorem remN_le (ps : List Pr) (c : List Int) (k : Nat) : remN ps c k ≤ k := by
  have := List.length_filter_le (remB ps c) (List.range k)
  rw [List.length_range] at this
  exact this
/-- None of the first n events of q asks for the last of p. -/
def freeN (ps : List Pr) (c : List Int) (p : Nat) (x : Pr) (n : Nat) : Bool := (x.evs.take n).all fun e => !decide ((needE ps e).2 = cAt c p) || !decide ((needE ps e).1 = p)
def freeU (ps : List Pr) (c : List Int) (p k : Nat) : Bool := (List.range k).all fun q => freeN ps c p (ps.getD q ⟨⟨#[]⟩, [], []⟩) (cAt c q).toNat
theorem freeU_succ (ps : List Pr) (c : List Int) (p : Nat) {k : Nat} (hk : k < ps.length) : freeU ps c p (k + 1) = (freeU ps c p k && freeN ps c p ps[k] (cAt c k).toNat) := by
  unfold freeU
  rw [List.range_succ, List.all_append]
  simp [List.getD_eq_getElem?_getD, hk]
theorem free_rem {ps : List Pr} (hv : validF ps = true) {c : List Int} (hc : isF ps c = true) {p : Nat} (hp : p < ps.length) (h0 : 0 < cAt c p) : freeU ps c p ps.length = isF ps (takC c p) := by
  obtain ⟨c1, c2, c3⟩ := isF_iff.1 hc
  have hm := (valid_parts hv).2.2
  have hr := (inRange_iff c1).1 c2
  have hcl := closed_iff.1 c3
  have hl : (takC c p).length = ps.length := by unfold takC; rw [List.length_set]; exact c1
  have hat : ∀ q, q < ps.length → cAt (takC c p) q = if p = q then cAt c p - 1 else cAt c q := fun q hq => by
    unfold takC; rw [setc_cAt (by omega)]
  have hF : freeU ps c p ps.length = true ↔ ∀ (q : Nat) (hq : q < ps.length) (i : Nat) (hi : i < ps[q].evs.length), (i : Int) + 1 ≤ cAt c q → ¬ ((needE ps ps[q].evs[i]).2 = cAt c p ∧ (needE ps ps[q].evs[i]).1 = p) := by
    unfold freeU
    rw [List.all_eq_true]
    constructor
    · intro h q hq i hi hle ⟨e1, e2⟩
      have := h q (List.mem_range.2 hq)
      have hg : ps.getD q ⟨⟨#[]⟩, [], []⟩ = ps[q] := by simp [List.getD_eq_getElem?_getD, hq]
      rw [hg] at this
      unfold freeN at this
      rw [List.all_eq_true] at this
      have hmem : ps[q].evs[i] ∈ ps[q].evs.take (cAt c q).toNat := by
        rw [List.mem_take_iff_getElem]
        exact ⟨i, by omega, rfl⟩
      have := this _ hmem
      rw [e1, e2] at this
      simp at this
    · intro h q hq
      have hq := List.mem_range.1 hq
      have hg : ps.getD q ⟨⟨#[]⟩, [], []⟩ = ps[q] := by simp [List.getD_eq_getElem?_getD, hq]
      rw [hg]
      unfold freeN
      rw [List.all_eq_true]
      intro e he
      obtain ⟨i, hi, rfl⟩ := List.mem_take_iff_getElem.1 he
      have := h q hq i (by omega) (by omega)
      simp only [Bool.or_eq_true, Bool.not_eq_true', decide_eq_false_iff_not]
      by_cases e1 : (needE ps ps[q].evs[i]).2 = cAt c p
      · exact .inr fun e2 => this ⟨e1, e2⟩
      · exact .inl e1
  rw [Bool.eq_iff_iff, hF]
  constructor
  · intro h
    refine isF_iff.2 ⟨hl, (inRange_iff hl).2 fun q hq => ?_, closed_iff.2 fun q hq i hi hk hle => ?_⟩
    · have := hr q hq
      rw [hat q hq]
      split
      · rename_i e; subst e; omega
      · exact this
    · have hle' : (i : Int) + 1 ≤ cAt c q := by
        rw [hat q hq] at hle
        split at hle
        · rename_i e; subst e; omega
        · exact hle
      have h1 := hcl q hq i hi hk hle'
      have h2 := h q hq i hi hle'
      obtain ⟨s, hs, j, hj, e, _, _⟩ := sndr_some (recv_sndr hm hq hi hk)
      have hne : needE ps ps[q].evs[i] = sndr ps ps[q].evs[i].msg := by unfold needE; rw [if_pos hk]
      rw [hne, e] at h2
      rw [e] at h1 ⊢
      simp only at h1 h2 ⊢
      rw [hat s hs]
      split
      · rename_i es; subst es
        have : ¬ ((j : Int) + 1 = cAt c p) := fun h => h2 ⟨h, rfl⟩
        omega
      · exact h1
  · intro h q hq i hi hle ⟨e1, e2⟩
    obtain ⟨_, _, t3⟩ := isF_iff.1 h
    have hk : ps[q].evs[i].kind = 3 := by
      by_cases hk : ps[q].evs[i].kind = 3
      · exact hk
      · unfold needE at e1
        rw [if_neg hk] at e1
        simp only at e1
        omega
    have hne : needE ps ps[q].evs[i] = sndr ps ps[q].evs[i].msg := by unfold needE; rw [if_pos hk]
    rw [hne] at e1 e2
    by_cases hpq : p = q
    · subst hpq
      obtain ⟨s, hs, j, hj, e, k2, _⟩ := sndr_some (recv_sndr hm hp hi hk)
      rw [e] at e1 e2
      simp only at e1 e2
      obtain rfl : s = p := by omega
      by_cases hle2 : (i : Int) + 1 ≤ cAt c s - 1
      · have h1 := closed_iff.1 t3 s hp i hi hk (by rw [hat s hp, if_pos rfl]; exact hle2)
        rw [e] at h1
        simp only at h1
        rw [hat s hp, if_pos rfl] at h1
        omega
      · obtain rfl : i = j := by omega
        omega
    · have h1 := closed_iff.1 t3 q hq i hi hk (by rw [hat q hq, if_neg hpq]; exact hle)
      rw [e1, e2, hat p hp, if_pos rfl] at h1
      omega
end Go.AL
end
section
/- Irreducible cuts: the walks. No condition. -/
namespace Go.AL
open Go Go.RowKit
set_option maxRecDepth 4000
theorem cuts_Irreducible (ps : List Pr) (hs : Sm ps) (c : List Int) : PC Go.Proofs.Tryz.prog 35 [aTr ps, aInts c] (.tup [ab (decide (chkE ps [c] = 0) && irrF ps c), ai (chkE ps [c])]) := by
  have h1 := cuts_checked ps hs [c] (by simp)
  have hR : ∀ x : List (List Int), aRows x = .sl 1 (x.map aInts) := fun _ => rfl
  rw [hR] at h1
  simp only [List.map_cons, List.map_nil] at h1
  by_cases hk : chkE ps [c] = 0
  · obtain ⟨hv, hc⟩ := chk_zero.1 hk
    have hc := hc c (by simp)
    have hir : irrF ps c = decide (remN ps c c.length = 1) := rfl
    have hcl := (isF_iff.1 hc).1
    have hcr := (inRange_iff hcl).1 (isF_iff.1 hc).2.1
    have h8 := (valid_len hv).2
    have h2 := cuts_of ps hs hv
    unfold aMk aNeeds at h2
    rw [hk] at h1 ⊢
    clear hk
    refine PC.enter 77 [.tmp 4, .tmp 5] [2, 7, 13, 16] Go.Proofs.Tryz.func35 rfl rfl rfl rfl rfl (by simp) (AWp.of ?_); simp only [go_sem]
    repeat (first | ((with_reducible refine AWp.ofC ?_ ?_); (focus exact rfl); simp only [go_sem]) | ((with_reducible refine an ?_ ?_); focus exact Au))
    repeat ((with_reducible refine an ?_ ?_); focus exact As)
    refine (h1).val.use ?_; simp only [go_sem]
    repeat (first | ((with_reducible refine AWp.ofC ?_ ?_); (focus exact rfl); simp only [go_sem]) | ((with_reducible refine an ?_ ?_); focus exact Au))
    repeat ((with_reducible refine an ?_ ?_); focus exact As)
    refine (h2).val.use ?_; simp only [go_sem]
    repeat (first | ((with_reducible refine AWp.ofC ?_ ?_); (focus exact rfl); simp only [go_sem]) | ((with_reducible refine an ?_ ?_); focus exact Au))
    intro b7
    repeat (first | ((with_reducible refine AWp.ofC ?_ ?_); (focus exact rfl); simp only [go_sem]) | ((with_reducible refine an ?_ ?_); focus exact Au))
    refine AWp.range' c.length [8] [1, 7, 24] (fun k vs L => L = [] ∧ vs = [ai (remN ps c k : Nat)]) (by omega) rfl rfl rfl ⟨rfl, rfl⟩ ?_ ?_
    · rintro k vs L hk - ⟨rfl, rfl⟩
      have hgk := getD_map (f := ai) hk
      have hst := remN_succ ps c k
      have hle := remN_le ps c k
      have hck := cAt_nat hk
      have hr := hcr k (by omega)
      simp only [go_sem]
      repeat (first | ((with_reducible refine AWp.ofC ?_ ?_); (focus exact rfl); simp only [go_sem, hgk]) | ((with_reducible refine an ?_ ?_); focus exact Au))
      refine ⟨fun h0 => ?_, fun h0 => ?_⟩
      · have hz : remB ps c k = false := by
          unfold remB
          rw [decide_eq_false (by omega)]; rfl
        rw [hz] at hst
        repeat (first | ((with_reducible refine AWp.ofC ?_ ?_); (focus exact rfl); simp only [go_sem]) | ((with_reducible refine an ?_ ?_); focus exact Au))
        exact ⟨_, List.Sublist.refl _, rfl, by rw [hst]; rfl⟩
      · have hfr := free_rem hv hc (p := k) (by omega) (by omega)
        have hz : remB ps c k = freeU ps c k ps.length := by
          unfold remB
          rw [decide_eq_true (by omega), hfr]; rfl
        rw [hz] at hst
        clear hfr hz
        repeat (first | ((with_reducible refine AWp.ofC ?_ ?_); (focus exact rfl); simp only [go_sem]) | ((with_reducible refine an ?_ ?_); focus exact Au))
        refine AWp.range' c.length [10] [1, 7, 8, 9, 24, 25, 34] (fun q vs L => L = [] ∧ vs = [ab (freeU ps c k q)]) (by omega) rfl rfl rfl ⟨rfl, rfl⟩ ?_ ?_
        · rintro q vs L hq - ⟨rfl, rfl⟩
          have hqp : q < ps.length := by omega
          have hgq := getD_map (f := ai) hq
          have hgn := getD_map (f := fun x : Pr => AV.sl 2 ((x.evs.map (needE ps)).map aEid)) hqp
          have hrq := hcr q hqp
          have hcq := cAt_nat hq
          have hfs := freeU_succ ps c k hqp
          have hel := hs.evs _ (List.getElem_mem hqp)
          have hfn : freeN ps c k ps[q] (cAt c q).toNat = (ps[q].evs.take (c[q]).toNat).all fun e => !decide ((needE ps e).2 = cAt c k) || !decide ((needE ps e).1 = k) := by rw [hcq]; rfl
          rw [hfs, hfn, hck]
          have hes : (ps[q].evs.take (c[q]).toNat).length ≤ 1000000 := by rw [List.length_take]; omega
          generalize freeU ps c k q = f0 at *
          simp only [go_sem]
          repeat ((with_reducible refine an ?_ ?_); focus exact As)
          refine AWp.of ?_; simp only [go_sem]
          refine AWp.seq ?_
          refine AWp.read mixed [0, 1, 2, 3, 4, 5, 6, 7, 8, 9, 10, 11] (by kernel_rfl) ?_; simp only [go_sem, hgq, hgn]
          repeat ((with_reducible refine an ?_ ?_); focus exact As)
          clear hfn hfs hgn hgq
          generalize ps[q].evs.take (c[q]).toNat = es at *
          refine AWp.range' es.length [10] [1, 7, 8, 9, 24, 25, 34, 35, 47, 48] (fun i vs L => L = [] ∧ vs = [ab (f0 && (es.take i).all fun e => !decide ((needE ps e).2 = c[k]) || !decide ((needE ps e).1 = k))]) (by omega) rfl rfl rfl ⟨rfl, by simp; rfl⟩ ?_ ?_
          · rintro i vs L hi - ⟨rfl, rfl⟩
            have hge : ((es.map (needE ps)).map aEid).getD i .any = aEid (needE ps es[i]) := by rw [getD_map (by simpa using hi), List.getElem_map]
            have hall : ((es.take (i + 1)).all fun e => !decide ((needE ps e).2 = c[k]) || !decide ((needE ps e).1 = k)) = (((es.take i).all fun e => !decide ((needE ps e).2 = c[k]) || !decide ((needE ps e).1 = k)) && (!decide ((needE ps es[i]).2 = c[k]) || !decide ((needE ps es[i]).1 = k))) := by
              rw [List.take_succ_eq_append_getElem hi, List.all_append]; simp
            rw [hall]
            generalize ((es.take i).all fun e => !decide ((needE ps e).2 = c[k]) || !decide ((needE ps e).1 = k)) = f1 at *
            generalize needE ps es[i] = ne at *
            obtain ⟨n1, n2⟩ := ne
            have hge : ((es.map (needE ps)).map aEid).getD i .any = .agg [ai n1, ai n2] := hge
            simp only [go_sem]
            repeat (first | ((with_reducible refine AWp.ofC ?_ ?_); (focus exact rfl); simp only [go_sem, hge]) | ((with_reducible refine an ?_ ?_); focus exact Au))
            intro b13
            refine AWp.mix mixed [0, 1, 2, 3, 4, 5, 6, 7, 8, 9, 10, 11, 12, 13, 14, 15] (.step 16 .done .done) (by kernel_rfl) ?_; simp only [go_sem, hgk]
            refine ⟨fun h1 h2 => ⟨⟨h1, h2⟩, by omega, by omega⟩, fun h1 h2 => ⟨⟨h1, h2⟩, by omega⟩, fun h1 h2 => ⟨⟨h1, h2⟩, fun h => ⟨⟨h1, h2⟩, h⟩⟩, _, List.Sublist.refl _, rfl, ?_⟩
            rw [Bool.and_assoc]
          · rintro vs L - ⟨rfl, rfl⟩
            rw [List.take_length]
            simp only [go_sem]
            exact ⟨_, List.Sublist.refl _, rfl⟩
        · rintro vs L - ⟨rfl, rfl⟩
          rw [hcl]
          cases hfu : freeU ps c k ps.length with
          | true =>
            rw [hfu, if_pos rfl] at hst
            simp only [go_sem]
            repeat (first | ((with_reducible refine AWp.ofC ?_ ?_); (focus exact rfl); simp only [go_sem]) | ((with_reducible refine an ?_ ?_); focus exact Au))
            exact ⟨_, List.Sublist.refl _, rfl, by rw [hst]; simp⟩
          | false =>
            rw [hfu, if_neg (by decide)] at hst
            simp only [go_sem]
            repeat (first | ((with_reducible refine AWp.ofC ?_ ?_); (focus exact rfl); simp only [go_sem]) | ((with_reducible refine an ?_ ?_); focus exact Au))
            exact ⟨_, List.Sublist.refl _, rfl, by rw [hst]; rfl⟩
    · rintro vs L - ⟨rfl, rfl⟩
      simp only [go_sem]
      repeat (first | ((with_reducible refine AWp.ofC ?_ ?_); (focus exact rfl); simp only [go_sem]) | ((with_reducible refine an ?_ ?_); focus exact Au))
      refine ret_eq ?_; simp only [go_sem]
      rw [hir]
      have : decide ((remN ps c c.length : Int) = 1) = decide (remN ps c c.length = 1) := by rw [decide_eq_decide]; omega
      rw [this]
  · generalize chkE ps [c] = e at *
    refine PC.enter 77 [.tmp 4, .tmp 5] [2, 7, 13, 16] Go.Proofs.Tryz.func35 rfl rfl rfl rfl rfl (by simp) (AWp.of ?_); simp only [go_sem]
    repeat (first | ((with_reducible refine AWp.ofC ?_ ?_); (focus exact rfl); simp only [go_sem]) | ((with_reducible refine an ?_ ?_); focus exact Au))
    repeat ((with_reducible refine an ?_ ?_); focus exact As)
    refine (h1).val.use ?_; simp only [go_sem]
    repeat (first | ((with_reducible refine AWp.ofC ?_ ?_); (focus exact rfl); simp only [go_sem, hk]) | ((with_reducible refine an ?_ ?_); focus exact Au))
    refine ret_eq ?_; simp only [go_sem]
end Go.AL
end
section
/- The reference's Level, Widest; equal rows; few. No condition. -/
namespace Go.AL
open Go Go.RowKit
set_option maxRecDepth 4000
theorem cuts_Widest (ps : List Pr) (hs : Sm ps) : PC Go.Proofs.Tryz.prog 13 [aTr ps] (.tup [ai (widF (fun k => ((lvOf ps).getD k []).length) (lvOf ps).length).1, ai (widF (fun k => ((lvOf ps).getD k []).length) (lvOf ps).length).2, ai (lstE ps)]) := by
  have h3 := cuts_levels' ps hs
  have hR : ∀ x : List (List Int), aRows x = .sl 1 (x.map aInts) := fun _ => rfl
  have hl := lv_len hs
  generalize lvOf ps = ls at *
  generalize lstE ps = e at *
  refine PC.enter 31 [.tmp 2, .tmp 3, .tmp 4] [1] Go.Proofs.Tryz.func13 rfl rfl rfl rfl rfl (by simp) (AWp.of ?_); simp only [go_sem]
  repeat (first | ((with_reducible refine AWp.ofC ?_ ?_); (focus exact rfl); simp only [go_sem]) | ((with_reducible refine an ?_ ?_); focus exact Au))
  repeat ((with_reducible refine an ?_ ?_); focus exact As)
  refine (h3).val.use ?_; simp only [go_sem]
  repeat (first | ((with_reducible refine AWp.ofC ?_ ?_); (focus exact rfl); simp only [go_sem]) | ((with_reducible refine an ?_ ?_); focus exact Au))
  refine AWp.range' ls.length [2, 3] [4, 13, 14] (fun k vs L => L = [] ∧ vs = [ai (widF (fun k => (ls.getD k []).length) k).1, ai (widF (fun k => (ls.getD k []).length) k).2]) (by omega) rfl rfl rfl ⟨rfl, rfl⟩ ?_ ?_
  · rintro k vs L hk - ⟨rfl, rfl⟩
    have hst : widF (fun k => (ls.getD k []).length) (k + 1) = if (widF (fun k => (ls.getD k []).length) k).2 < (ls.getD k []).length then (k, (ls.getD k []).length) else widF (fun k => (ls.getD k []).length) k := rfl
    have hg := getD_map (f := aRows) hk
    have hg2 : ls.getD k [] = ls[k] := by simp [List.getD_eq_getElem?_getD, hk]
    rw [hg2] at hst
    generalize widF (fun k => (ls.getD k []).length) (k + 1) = w1 at *
    generalize widF (fun k => (ls.getD k []).length) k = w at *
    generalize ls[k] = lk at *
    simp only [go_sem]
    repeat (first | ((with_reducible refine AWp.ofC ?_ ?_); (focus exact rfl); simp only [go_sem, hg]) | ((with_reducible refine an ?_ ?_); focus exact Au))
    refine ⟨fun h3 => ?_, fun h3 => ?_⟩
    · rw [if_pos (by omega)] at hst
      repeat (first | ((with_reducible refine AWp.ofC ?_ ?_); (focus exact rfl); simp only [go_sem]) | ((with_reducible refine an ?_ ?_); focus exact Au))
      exact ⟨_, List.Sublist.refl _, rfl, by rw [hst]⟩
    · rw [if_neg (by omega)] at hst
      repeat (first | ((with_reducible refine AWp.ofC ?_ ?_); (focus exact rfl); simp only [go_sem]) | ((with_reducible refine an ?_ ?_); focus exact Au))
      exact ⟨_, List.Sublist.refl _, rfl, by rw [hst]⟩
  · rintro vs L - ⟨rfl, rfl⟩
    simp only [go_sem]
    repeat (first | ((with_reducible refine AWp.ofC ?_ ?_); (focus exact rfl); simp only [go_sem]) | ((with_reducible refine an ?_ ?_); focus exact Au))
    refine ret_eq ?_; simp only [go_sem]
theorem wid_eq {ps : List Pr} (h : lstE ps = 0) : widF (fun k => ((lvOf ps).getD k []).length) (lvOf ps).length = widF (fun k => (lvlF (cutsF ps) (k : Nat)).length) (off ps ps.length + 1) := by
  have hv := (lst_zero.1 h).1
  have hl : (lvOf ps).length = off ps ps.length + 1 := by unfold lvOf; rw [if_pos h, List.length_map, List.length_range, nlev_off hv]
  rw [hl]
  refine widF_congr fun k hk => ?_
  rw [lvl_cuts hv (by omega)]
  unfold lvOf
  simp only [h, if_true]
  rw [List.getD_eq_getElem?_getD, List.getElem?_map, List.getElem?_range (by rw [nlev_off hv]; exact hk)]
  rfl
theorem ref15_SameRows (a b : List (List Int)) (ha : a.length ≤ 1000000) (hx : ∀ x ∈ a, x.length ≤ 1000000) : PC Go.Proofs.Tryz.prog 16 [aRows a, aRows b] (ab (decide (a = b))) := by
  have hR : ∀ x : List (List Int), aRows x = .sl 1 (x.map aInts) := fun _ => rfl
  rw [hR, hR]
  by_cases hl : a.length = b.length
  · have hli : (a.length : Int) = b.length := by omega
    refine PC.enter 27 [.tmp 4] [] Go.Proofs.Tryz.func16 rfl rfl rfl rfl rfl (by simp) (AWp.of ?_); simp only [go_sem]
    repeat (first | ((with_reducible refine AWp.ofC ?_ ?_); (focus exact rfl); simp only [go_sem, hli]) | ((with_reducible refine an ?_ ?_); focus exact Au))
    refine AWp.block (AWp.count 5 a.length [] [0, 1] (fun k vs L => L = [] ∧ ∀ j (h1 : j < a.length) (h2 : j < b.length), j < k → a[j] = b[j]) rfl rfl ⟨rfl, fun j _ _ h => by omega⟩ ?_)
    rintro k vs L hk - ⟨rfl, hI⟩
    simp only [go_sem]
    repeat (first | ((with_reducible refine AWp.ofC ?_ ?_); (focus exact rfl); simp only [go_sem, hli]) | ((with_reducible refine an ?_ ?_); focus exact Au))
    refine ⟨fun h3 => ?_, fun h3 => ?_⟩
    · have hka : k < a.length := by omega
      have hkb : k < b.length := by omega
      have ga := getD_map (f := aInts) hka
      have gb := getD_map (f := aInts) hkb
      have hsl := ref15_SameList a[k] b[k] (hx _ (List.getElem_mem hka))
      refine AWp.seq (AWp.block (AWp.seq ?_))
      refine AWp.read mixed [0, 1, 2, 3, 4, 5, 6, 7, 8, 9] (by kernel_rfl) ?_; simp only [go_sem, ga, gb]
      repeat ((with_reducible refine an ?_ ?_); focus exact As)
      refine GCall.use (ab (decide (a[k] = b[k]))) (fun _ => ⟨At, hsl.val.use ⟨rfl, rfl⟩⟩) ?_
      simp only [go_sem]
      repeat ((with_reducible refine an ?_ ?_); focus exact As)
      repeat (first | ((with_reducible refine AWp.ofC ?_ ?_); (focus exact rfl); simp only [go_sem]) | ((with_reducible refine an ?_ ?_); focus exact Au))
      refine ⟨fun h4 => ?_, fun h4 => ?_⟩
      · repeat (first | ((with_reducible refine AWp.ofC ?_ ?_); (focus exact rfl); simp only [go_sem]) | ((with_reducible refine an ?_ ?_); focus exact Au))
        refine ret_eq ?_; simp only [go_sem]
        rw [decide_eq_false]
        rintro rfl
        exact h4 rfl
      · repeat (first | ((with_reducible refine AWp.ofC ?_ ?_); (focus exact rfl); simp only [go_sem]) | ((with_reducible refine an ?_ ?_); focus exact Au))
        refine ⟨_, List.Sublist.refl _, rfl, fun j j1 j2 hj => ?_⟩
        by_cases e : j = k
        · subst e; exact h4
        · exact hI j j1 j2 (by omega)
    · repeat (first | ((with_reducible refine AWp.ofC ?_ ?_); (focus exact rfl); simp only [go_sem]) | ((with_reducible refine an ?_ ?_); focus exact Au))
      refine ret_eq ?_; simp only [go_sem]
      rw [decide_eq_true]
      exact List.ext_getElem hl fun j j1 j2 => hI j j1 j2 (by omega)
  · have hli : ¬ (a.length : Int) = b.length := by omega
    rw [decide_eq_false fun h => hl (by rw [h])]
    refine PC.enter 27 [.tmp 4] [] Go.Proofs.Tryz.func16 rfl rfl rfl rfl rfl (by simp) (AWp.of ?_); simp only [go_sem]
    repeat (first | ((with_reducible refine AWp.ofC ?_ ?_); (focus exact rfl); simp only [go_sem, hli]) | ((with_reducible refine an ?_ ?_); focus exact Au))
    refine ret_eq ?_; simp only [go_sem]
end Go.AL
end
section
/- The layer AL: a statement whose sums may wrap. No condition. -/
namespace Go.AL
open Go Go.RowKit
def addW (a b : Int) : Int := IntKind.i64.wrap (a + b)
def aAddW (_C : Cfg) (o : Oper) (x y : AV) (ρ : Env) (L : AHeap) (K : ARes) : Prop :=
  match x, y with
  | .v (.int .i64 a), .v (.int .i64 b) => K (put ρ o.dst (ai (addW a b))) L
  | _, _ => False
def aopW (C : Cfg) (o : Oper) (ρ : Env) (L : AHeap) (K : ARes) : Prop :=
  match o.op with
  | .binOp .add _ x y _ => aAddW C o (ev ρ x) (ev ρ y) ρ L K
  | _ => aop C o ρ L K
theorem aopW_sound {C : Cfg} {o : Oper} {ρ : Env} {L : AHeap} {K : ARes} (hd : dstOk C o) (hdef : ∀ c, o.op ≠ .defer c) (h : aopW C o ρ L K) : AOp C o ρ L K := by
  unfold aopW at h
  split at h
  · rename_i t x y t' hop
    unfold aAddW at h
    split at h
    · rename_i a b hx hy
      refine AOp.val hd hdef (fun ac w A hρ hL => ⟨.int .i64 (addW a b), ?_, .v _⟩) h
      have h1 := hρ x; rw [hx] at h1; have h1 := h1.inv_v
      have h2 := hρ y; rw [hy] at h2; have h2 := h2.inv_v
      unfold execOp
      rw [hop]
      simp [h1, h2, binOp, eqGuard, Op.intArith, addW]
    · exact h.elim
  · exact aop_sound hd hdef h
def aregionW (C : Cfg) : List Oper → Env → AHeap → ARes → Prop
  | [], ρ, L, K => K ρ L
  | o :: rest, ρ, L, K => o.guard = none ∧ aopW C o ρ L fun ρ L => aregionW C rest ρ L K
def aregWK (C : Cfg) (rest : List Oper) (K : ARes) (ρ : Env) (L : AHeap) : Prop := aregionW C rest ρ L K
theorem aregionW_nil (C : Cfg) (ρ : Env) (L : AHeap) (K : ARes) : aregionW C [] ρ L K = K ρ L := rfl
theorem aregionW_cons (C : Cfg) (rest : List Oper) (o : Oper) (ρ : Env) (L : AHeap) (K : ARes) : aregionW C (o :: rest) ρ L K = (o.guard = none ∧ aopW C o ρ L (aregWK C rest K)) := rfl
theorem aregionW_sound {C : Cfg} {ops : Array Oper} {K : ARes} {n : Nat} {w0 : World} {M A0 : Foot} {Q : Exit → Act → World → Prop} (hQ : ∀ a w, post w0 M A0 C.N K a w → Q .normal a w) (hok : ops.toList.all (operOk C.N) = true) :
    ∀ (l : List Oper) (k : Nat), (∀ j, l[j]? = ops[k + j]?) → ∀ (ρ : Env) (L : AHeap) (a : Act) (w : World), aregionW C l ρ L K → St w0 M A0 C.N ρ L a w → wpOpsIn (Fw C.r) n C.P ops Q (List.range' k l.length) a w
  | [], k, _, ρ, L, a, w, h, hs => hQ a w ⟨ρ, L, h, hs⟩
  | o :: l, k, hl, ρ, L, a, w, h, hs => by
    have h0 : ops[k]? = some o := by simpa using (hl 0).symm
    have ho : operOk C.N o = true := List.all_eq_true.1 hok o (List.mem_of_getElem? (by simpa using h0))
    rw [List.length_cons, List.range'_succ, wpOpsIn_cons]
    refine wpOpIn_mono ?_ (AOp.gop h0 h.1 (aopW_sound (operOk_dst ho) (operOk_def ho) h.2) n w0 M A0 a w Q hs)
    rintro a' w' ⟨ρ', L', h1, h2⟩
    exact aregionW_sound hQ hok l (k + 1) (fun j => by have := hl (j + 1); simpa [Nat.add_assoc, Nat.add_comm 1 j] using this) ρ' L' a' w' h1 h2
theorem AWp.regionW {C : Cfg} {id : Nat} {ops : Array Oper} {Q : AQ} {ρ : Env} {L : AHeap} (h : aregionW C ops.toList ρ L (Q .normal)) : AWp C (.region id ops false) Q ρ L := fun hok n w0 M A0 a w hs => by
  refine wpIn_region ?_
  have := aregionW_sound (C := C) (ops := ops) (K := Q .normal) (n := n) (Q := cq C w0 M A0 Q) (fun a w ⟨ρ', L', h1, h2⟩ => ⟨ρ', L', h1, h2⟩) hok ops.toList 0 (by simp) ρ L a w h hs
  rwa [Array.length_toList, ← List.range_eq_range'] at this
attribute [go_sem] aregionW_nil aregionW_cons aregWK aopW aAddW
end Go.AL
end
section
/- The layer AL: ranges over slices of any length. No condition. -/
namespace Go.AL
open Go Go.RowKit
theorem AWp.range1 {C : Cfg} {id i1 i2 t s n t2 : Nat} {ty1 ty2 ty3 ty4 r1 r2 r3 : TypeId} {p1 p2 p3 : String} {a1 a2 a3 : Array Edge} {body : Code} {Q : AQ} {ρ : Env} {L : AHeap}
    (m : Nat) (ls ks : List Nat) (I : Nat → List AV → AHeap → Prop) (hm : m ≤ 9223372036854775807) (hs : get ρ s = ai 0) (hn : get ρ n = ai m) (hnk : n ∈ ks) (hsk : s ∉ ks) (hsl : s ∉ ls) (hts : t ≠ s) (htk : t ∉ ks) (h2k : t2 ∉ ks) (htl : t ∉ ls) (h2l : t2 ∉ ls)
    (h0 : I 0 (ls.map (get ρ)) L)
    (round : ∀ k vs L', k < m → vs.length = ls.length → I k vs L' → AWp C body (rangeQ id s k ls ks ρ (I (k + 1)) Q) ((s, ai k) :: lenv ls ks vs ρ) L')
    (done : ∀ vs L', vs.length = ls.length → I m vs L' → Q .normal ((s, ai m) :: lenv ls ks vs ρ) L') :
    AWp C (.block id (.loop (.seq (.region i1 #[⟨some t, .binOp .lss ty1 (.tmp s) (.tmp n) ty2, r1, p1, a1, none⟩] false) (.seq (.cond (.tmp t) .skip (.exit id)) (.seq body
      (.region i2 #[⟨some t2, .binOp .add ty3 (.tmp s) (.const (.int .i64 1)) ty4, r2, p2, a2, none⟩, ⟨some s, .move (.tmp t2), r3, p3, a3, none⟩] false)))))) Q ρ L := by
  have hnl : ∀ vs : List AV, vs.length = ls.length → get (lenv ls ks vs ρ) n = ai m := fun vs _ => by
    unfold lenv
    have hin : n ∈ (keep ks ρ).map (·.1) := by simp [keep, hnk]
    rw [get_append, if_pos hin]
    rcases get_keep ks ρ n with e | e
    · have : ∀ l : List Nat, n ∈ l → get (keep l ρ) n = get ρ n := fun l => by
        induction l with
        | nil => intro h; cases h
        | cons x r ih =>
          intro h
          simp only [keep, List.map_cons, get]
          split
          · rename_i e; rw [e]
          · rename_i e; exact ih ((List.mem_cons.1 h).resolve_left e)
      rw [this ks hnk, hn]
    · rw [e, hn]
  have hns : n ≠ s := fun e => hsk (e ▸ hnk)
  have dropT : ∀ (k : Nat) (vs : List AV) (x : AV) (i : Nat), get ((s, ai k) :: lenv ls ks vs ρ) i = .any ∨ get ((s, ai k) :: lenv ls ks vs ρ) i = get ((t, x) :: (s, ai k) :: lenv ls ks vs ρ) i := fun k vs x i => by
    by_cases hi : i = t
    · subst hi
      refine .inl ?_
      simp only [get, if_neg hts, lenv]
      rw [get_append, if_neg (by simp [keep, htk])]
      have : ∀ (l : List Nat) (v : List AV), i ∉ l → get (l.zip v) i = .any := fun l => by
        induction l with
        | nil => intro v _; rfl
        | cons x r ih =>
          intro v h
          cases v with
          | nil => rfl
          | cons y v =>
            simp only [List.zip_cons_cons, get]
            rw [if_neg (by rintro rfl; exact h List.mem_cons_self)]
            exact ih v (fun hh => h (List.mem_cons_of_mem _ hh))
      exact this ls vs htl
    · exact .inr (by simp [get, hi])
  refine AWp.block (AWp.loop (s :: ls) ks (fun vs' L' => ∃ (k : Nat) (vs : List AV), vs' = ai (k : Int) :: vs ∧ k ≤ m ∧ I k vs L') (fun vs' _ => match vs' with | .v (.int _ k) :: _ => m - k.toNat | _ => 0)
    ⟨0, _, by simp [hs], Nat.zero_le _, h0⟩ ?_)
  rintro vs' L' hl ⟨k, vs, rfl, hk, hI⟩
  have hvl : vs.length = ls.length := by simpa using hl
  -- the counter first
  refine AWp.st (ρ' := (s, ai k) :: lenv ls ks vs ρ) (L' := L') (fun w0 M A0 a w h => st_forget h fun i => ?_) ?_
  · by_cases hi : i = s
    · subst hi
      refine .inr ?_
      simp only [get, if_true, lenv]
      rw [get_append, if_neg (by simp [keep, hsk])]
      simp [get]
    · refine .inr ?_
      simp only [get, if_neg hi, lenv, List.zip_cons_cons]
      rw [get_append, get_append]
      split
      · rfl
      · simp [get, hi]
  have hget_s : get ((s, ai k) :: lenv ls ks vs ρ) s = ai k := by simp [get]
  have hget_n : get ((s, ai k) :: lenv ls ks vs ρ) n = ai m := by simp only [get, if_neg hns]; exact hnl vs hvl
  refine AWp.seq (AWp.region ?_)
  simp only [aregion, astep, aop, aval, ev, hget_s, hget_n, w2, fo, aEq, aBin, thenQ, put]
  refine ⟨by simp, ?_⟩
  refine AWp.seq (AWp.cond (t := decide ((k : Int) < m)) (by simp [ev, get]) (fun ht => ?_) (fun hf => ?_))
  · have hlt : k < m := by simpa using ht
    refine AWp.of ?_
    simp only [awp1, thenQ]
    refine AWp.st (ρ' := (s, ai k) :: lenv ls ks vs ρ) (L' := L') (fun w0 M A0 a w h => st_forget h (dropT k vs _)) ?_
    refine AWp.seq ((round k vs L' hlt hvl hI).mono ?_)
    intro e ρ' L'' hq
    cases e with
    | normal =>
      obtain ⟨g1, g2, L3, g3, g4⟩ := hq
      simp only [thenQ]
      refine AWp.region ?_
      have hi64 : I64 ((k : Int) + 1) := by unfold I64; omega
      simp only [aregion, astep, aop, aval, ev, g1, w2, fo, aEq, aBin, put, if_true, get]
      refine ⟨⟨⟨trivial, trivial⟩, trivial, hi64⟩, trivial, ?_⟩
      simp only [roundQ]
      have hks : ks.map (get ((s, ai ((k : Int) + 1)) :: (t2, ai ((k : Int) + 1)) :: ρ')) = ks.map (get ρ') := List.map_congr_left fun j hj => by
        simp only [get]; rw [if_neg (by rintro rfl; exact hsk hj), if_neg (by rintro rfl; exact h2k hj)]
      have hls : ls.map (get ((s, ai ((k : Int) + 1)) :: (t2, ai ((k : Int) + 1)) :: ρ')) = ls.map (get ρ') := List.map_congr_left fun j hj => by
        simp only [get]; rw [if_neg (by rintro rfl; exact hsl hj), if_neg (by rintro rfl; exact h2l hj)]
      refine ⟨by rw [hks]; exact g2, L3, g3, ⟨k + 1, _, ?_, hlt, g4⟩, ?_⟩
      · rw [List.map_cons, hls]
        simp only [get, if_true]
        rfl
      · simp only [List.map_cons, get, if_true]
        have : ((k : Int) + 1).toNat = k + 1 := by omega
        simp only [this, Int.toNat_natCast]
        omega
    | exit id' => simpa [thenQ, roundQ, blockQ, rangeQ] using hq
    | goto l => exact hq
    | ret => exact hq
    | panic c => exact hq
    | outgrown => exact hq
  · have hkm : k = m := by have : ¬ ((k : Int) < m) := by simpa using hf
                           omega
    subst hkm
    refine AWp.st (ρ' := (s, ai k) :: lenv ls ks vs ρ) (L' := L') (fun w0 M A0 a w h => st_forget h (dropT k vs _)) (AWp.of ?_)
    simp only [awp1, thenQ, roundQ, blockQ, if_true]
    exact done vs L' hvl hI
theorem AWp.range1' {C : Cfg} {id i1 i2 t s n t2 : Nat} {ty1 ty2 ty3 ty4 r1 r2 r3 : TypeId} {p1 p2 p3 : String} {a1 a2 a3 : Array Edge} {body : Code} {Q : AQ} {ρ : Env} {L : AHeap}
    (m : Nat) (ls ks : List Nat) (I : Nat → List AV → AHeap → Prop) (hm : m ≤ 9223372036854775807) (hs : get ρ s = ai 0) (hn : get ρ n = ai m) (hok : rOk s n t t2 ls ks = true)
    (h0 : I 0 (ls.map (get ρ)) L)
    (round : ∀ k vs L', k < m → vs.length = ls.length → I k vs L' → AWp C body (rangeQ id s k ls ks ρ (I (k + 1)) Q) ((s, ai k) :: lenv ls ks vs ρ) L')
    (done : ∀ vs L', vs.length = ls.length → I m vs L' → Q .normal ((s, ai m) :: lenv ls ks vs ρ) L') :
    AWp C (.block id (.loop (.seq (.region i1 #[⟨some t, .binOp .lss ty1 (.tmp s) (.tmp n) ty2, r1, p1, a1, none⟩] false) (.seq (.cond (.tmp t) .skip (.exit id)) (.seq body
      (.region i2 #[⟨some t2, .binOp .add ty3 (.tmp s) (.const (.int .i64 1)) ty4, r2, p2, a2, none⟩, ⟨some s, .move (.tmp t2), r3, p3, a3, none⟩] false)))))) Q ρ L := by
  simp only [rOk, Bool.and_eq_true, Bool.not_eq_true', List.contains_eq_mem, decide_eq_false_iff_not, decide_eq_true_eq, bne_iff_ne, ne_eq] at hok
  obtain ⟨⟨⟨⟨⟨⟨⟨h1, h2⟩, h3⟩, h4⟩, h5⟩, h6⟩, h7⟩, h8⟩ := hok
  exact AWp.range1 m ls ks I hm hs hn h1 h2 h3 h4 h5 h6 h7 h8 h0 round done
end Go.AL
end
section
/- The law of layer 23: the example, small traces, what is listed; CutsLists. No condition. -/
namespace Go.AL
open Go Go.RowKit
set_option maxRecDepth 4000
def psP : List Pr := [⟨⟨#[97]⟩, [], [⟨2, 1, 0, 0, []⟩]⟩, ⟨⟨#[98]⟩, [], [⟨3, 0, 0, 0, []⟩]⟩]
theorem psP_valid : validF psP = true := by
  unfold validF faultF
  rw [if_neg (by decide), show procFirst psP = none from rfl, show evFirst psP = none from rfl, show msgF psP = none from rfl, cycF_rank (fun x => x.1) (by decide)]
  rfl
theorem psP_sm : Sm psP := ⟨by decide, by decide, by decide, by decide⟩
theorem psP_cuts : cutsF psP = [[0, 0], [1, 0], [1, 1]] := by rfl
theorem psP_zero : lstE psP = 0 := lst_zero.2 ⟨psP_valid, by rw [psP_cuts]; decide⟩
theorem law23_pair : PC Go.Proofs.Tryz.prog 51 [] (aTr psP) := by
  refine PC.enter 9 [.cell 0 24] [0, 2, 5, 7] Go.Proofs.Tryz.func51 rfl rfl rfl rfl rfl (by simp) (AWp.of ?_); simp only [go_sem]
  repeat (first | ((with_reducible refine AWp.ofC ?_ ?_); (focus exact rfl); simp only [go_sem]) | ((with_reducible refine an ?_ ?_); focus exact Au))
  intro b0
  repeat (first | ((with_reducible refine AWp.ofC ?_ ?_); (focus exact rfl); simp only [go_sem]) | ((with_reducible refine an ?_ ?_); focus exact Au))
  refine ret_view [] ?_; simp only [go_sem]
  repeat (first | exact Vw.refl _ | exact Vws.nil | exact Vw.nil _ | refine Vws.cons ?_ ?_ | refine Vw.mkAgg ?_ | refine Vw.mkSl ?_)
theorem law23_awake : PC Go.Proofs.Tryz.prog 8 [] (ab true) := by
  have h1 := cuts_List psP psP_sm
  have h2 := cuts_Widest psP psP_sm
  have e1 : aLst psP = .tup [aRows [[0, 0], [1, 0], [1, 1]], ai 0] := by unfold aLst lstF; rw [psP_zero, if_pos rfl, psP_cuts]
  have e2 : widF (fun k => (lvlF (cutsF psP) (k : Nat)).length) (off psP psP.length + 1) = (0, 1) := by rw [psP_cuts]; rfl
  rw [e1] at h1
  rw [wid_eq psP_zero, e2, psP_zero] at h2
  have h3 := ref15_SameRows [[0, 0], [1, 0], [1, 1]] [[0, 0], [1, 0], [1, 1]] (by decide) (by decide)
  rw [decide_eq_true rfl] at h3
  refine PC.enter 39 [.tmp 0] [21, 22, 23, 24] Go.Proofs.Tryz.func8 rfl rfl rfl rfl rfl (by simp) (AWp.of ?_); simp only [go_sem]
  repeat (first | ((with_reducible refine AWp.ofC ?_ ?_); (focus exact rfl); simp only [go_sem]) | ((with_reducible refine an ?_ ?_); focus exact Au))
  repeat ((with_reducible refine an ?_ ?_); focus exact As)
  refine (law23_pair).val.use ?_; simp only [go_sem]
  repeat (first | ((with_reducible refine AWp.ofC ?_ ?_); (focus exact rfl); simp only [go_sem]) | ((with_reducible refine an ?_ ?_); focus exact Au))
  repeat ((with_reducible refine an ?_ ?_); focus exact As)
  refine (h1).val.use ?_; simp only [go_sem]
  repeat (first | ((with_reducible refine AWp.ofC ?_ ?_); (focus exact rfl); simp only [go_sem]) | ((with_reducible refine an ?_ ?_); focus exact Au))
  repeat ((with_reducible refine an ?_ ?_); focus exact As)
  refine (law23_pair).val.use ?_; simp only [go_sem]
  repeat (first | ((with_reducible refine AWp.ofC ?_ ?_); (focus exact rfl); simp only [go_sem]) | ((with_reducible refine an ?_ ?_); focus exact Au))
  repeat ((with_reducible refine an ?_ ?_); focus exact As)
  refine (h2).val.use ?_; simp only [go_sem]
  repeat (first | ((with_reducible refine AWp.ofC ?_ ?_); (focus exact rfl); simp only [go_sem]) | ((with_reducible refine an ?_ ?_); focus exact Au))
  repeat ((with_reducible refine an ?_ ?_); focus exact As)
  refine GCall.use (ab true) (fun _ => ⟨At, (h3).val.use ⟨rfl, rfl⟩⟩) ?_; simp only [go_sem]
  repeat (first | ((with_reducible refine AWp.ofC ?_ ?_); (focus exact rfl); simp only [go_sem]) | ((with_reducible refine an ?_ ?_); focus exact Au))
  refine ret_eq ?_; simp only [go_sem]
  rfl
/-! Small traces. -/
def fewP (x : Pr) : Bool := !(decide (20 < (x.evs.length : Int)) || (decide (20 < (x.vars.length : Int)) || x.evs.any asg20))
def fewF (ps : List Pr) : Bool := ps.all fewP && (decide ((ps.length : Int) ≤ 10) && decide ((off ps ps.length : Int) ≤ 40))
theorem fewF_sm {ps : List Pr} (h : fewF ps = true) : Sm ps := by
  simp only [fewF, fewP, asg20, Bool.and_eq_true, decide_eq_true_eq, List.all_eq_true, Bool.not_eq_true', Bool.or_eq_false_iff, decide_eq_false_iff_not, List.any_eq_false] at h
  obtain ⟨h2, h1, _⟩ := h
  exact ⟨by omega, fun p hp => by have := (h2 p hp).1; omega, fun p hp => by have := (h2 p hp).2.1; omega, fun p hp e he => by have := (h2 p hp).2.2 e he; omega⟩
theorem law23_few1 (e : Ev) : PC Go.Proofs.Tryz.prog 53 [aEv e] (ab (asg20 e)) := by
  refine PC.enter 7 [.tmp 2] [1] Go.Proofs.Tryz.func53 rfl rfl rfl rfl rfl (by simp) (AWp.of ?_); simp only [go_sem]
  repeat (first | ((with_reducible refine AWp.ofC ?_ ?_); (focus exact rfl); simp only [go_sem]) | ((with_reducible refine an ?_ ?_); focus exact Au))
  refine ret_eq ?_; simp only [go_sem]
  rfl
theorem addW_in {a b : Int} (h : -9223372036854775808 ≤ a + b ∧ a + b ≤ 9223372036854775807) : addW a b = a + b := IntWalk.i64_in _ (by omega)
theorem law23_few (ps : List Pr) (hl : ps.length ≤ 9223372036854775807) : PC Go.Proofs.Tryz.prog 9 [aTr ps] (ab (fewF ps)) := by
  refine PC.enter 42 [.tmp 2] [1, 5] Go.Proofs.Tryz.func9 rfl rfl rfl rfl rfl (by simp) (AWp.of ?_); simp only [go_sem]
  repeat (first | ((with_reducible refine AWp.ofC ?_ ?_); (focus exact rfl); simp only [go_sem]) | ((with_reducible refine an ?_ ?_); focus exact Au))
  refine AWp.range1' ps.length [3] [1, 7, 8] (fun k vs L => L = [] ∧ ∃ z : Int, vs = [ai z] ∧ (-9223372036854775808 ≤ z ∧ z ≤ 9223372036854775807) ∧ (k ≤ 10 → z = off ps k ∧ z ≤ 20 * k) ∧ ∀ (j : Nat) (hj : j < ps.length), j < k → fewP ps[j] = true) hl rfl rfl rfl ⟨rfl, 0, rfl, by omega, fun _ => ⟨by simp [off], by omega⟩, fun _ _ h => by omega⟩ ?_ ?_
  · rintro k vs L hk - ⟨rfl, z, rfl, hz, hz2, hI⟩
    have hgp := getD_map (f := aPr) hk
    have hof := off_succ hk
    have hfp : fewP ps[k] = !(decide (20 < (ps[k].evs.length : Int)) || (decide (20 < (ps[k].vars.length : Int)) || ps[k].evs.any asg20)) := rfl
    have hall : fewP ps[k] = false → fewF ps = false := fun h => by
      unfold fewF
      rw [Bool.and_eq_false_iff]
      exact .inl (List.all_eq_false.2 ⟨_, List.getElem_mem hk, by rw [h]; decide⟩)
    have hI' : fewP ps[k] = true → ∀ (j : Nat) (hj : j < ps.length), j < k + 1 → fewP ps[j] = true := fun h j hj hjk => by
      by_cases e : j = k
      · subst e; exact h
      · exact hI j hj (by omega)
    clear hI
    generalize ps[k] = x at *
    simp only [go_sem]
    repeat ((with_reducible refine an ?_ ?_); focus exact As)
    refine AWp.of ?_; simp only [go_sem, hgp]
    repeat ((with_reducible refine an ?_ ?_); focus exact As)
    intros
    refine AWp.seq (AWp.regionW ?_)
    simp only [go_sem]
    have hz3 : (-9223372036854775808 ≤ addW z x.evs.length ∧ addW z x.evs.length ≤ 9223372036854775807) := by
      unfold addW
      rw [IntKind.wrap_i64]
      omega
    have hz4 : x.evs.length ≤ 20 → k ≤ 9 → addW z x.evs.length = off ps (k + 1) ∧ addW z x.evs.length ≤ 20 * (k + 1 : Nat) := fun h1 h2 => by
      obtain ⟨h3, h4⟩ := hz2 (by omega)
      rw [addW_in (by omega), hof]
      omega
    generalize addW z x.evs.length = z' at *
    repeat (first | ((with_reducible refine AWp.ofC ?_ ?_); (focus exact rfl); simp only [go_sem]) | ((with_reducible refine an ?_ ?_); focus exact Au))
    refine GCall.use (ab (x.evs.any asg20)) (fun hg => ⟨by have := hg; simp at this ⊢; omega, (events_containsFunc x.evs (by have := hg; simp at this; omega) _ rfl asg20 fun e _ => (law23_few1 e).val).val.use ⟨rfl, rfl⟩⟩) ?_; simp only [go_sem]
    repeat (first | ((with_reducible refine AWp.ofC ?_ ?_); (focus exact rfl); simp only [go_sem]) | ((with_reducible refine an ?_ ?_); focus exact Au))
    refine ⟨fun h => ?_, fun h1 h2 h3 => ?_⟩
    · have hx : fewP x = false := by
        rw [hfp, Bool.not_eq_false']
        simpa [or_assoc] using h
      rw [hall hx]
      repeat (first | ((with_reducible refine AWp.ofC ?_ ?_); (focus exact rfl); simp only [go_sem]) | ((with_reducible refine an ?_ ?_); focus exact Au))
      refine ret_eq ?_; simp only [go_sem]
    · have hx : fewP x = true := by
        rw [hfp]
        simp [h2, h3]
        omega
      repeat (first | ((with_reducible refine AWp.ofC ?_ ?_); (focus exact rfl); simp only [go_sem]) | ((with_reducible refine an ?_ ?_); focus exact Au))
      exact ⟨_, List.Sublist.refl _, rfl, z', rfl, hz3, fun h => hz4 (by omega) (by omega), hI' hx⟩
  · rintro vs L - ⟨rfl, z, rfl, hz, hz2, hI⟩
    have hall : ps.all fewP = true := List.all_eq_true.2 fun x hx => by
      obtain ⟨j, hj, rfl⟩ := List.getElem_of_mem hx
      exact hI j hj hj
    have hfw : fewF ps = (decide ((ps.length : Int) ≤ 10) && decide ((off ps ps.length : Int) ≤ 40)) := by unfold fewF; rw [hall]; rfl
    have he : (decide ((ps.length : Int) ≤ 10) && decide (z ≤ 40)) = fewF ps := by
      rw [hfw]
      by_cases h : (ps.length : Int) ≤ 10
      · rw [(hz2 (by omega)).1]
      · simp [h]
    simp only [go_sem]
    repeat (first | ((with_reducible refine AWp.ofC ?_ ?_); (focus exact rfl); simp only [go_sem]) | ((with_reducible refine an ?_ ?_); focus exact Au))
    refine ret_eq ?_
    simp only [go_sem]
    rw [← he]
theorem law23_listed (ps : List Pr) (hs : Sm ps) : PC Go.Proofs.Tryz.prog 14 [aTr ps] (aLst ps) := by
  have h1 := ref12_Valid ps hs
  have h2 := fun hv => ref23_List ps hs hv
  have hR : ∀ x : List (List Int), aRows x = .sl 1 (x.map aInts) := fun _ => rfl
  unfold aLst lstF lstE
  cases hv : validF ps with
  | false =>
    rw [hv] at h1
    refine PC.enter 17 [.tmp 2, .tmp 3] [1] Go.Proofs.Tryz.func14 rfl rfl rfl rfl rfl (by simp) (AWp.of ?_); simp only [go_sem]
    repeat (first | ((with_reducible refine AWp.ofC ?_ ?_); (focus exact rfl); simp only [go_sem]) | ((with_reducible refine an ?_ ?_); focus exact Au))
    repeat ((with_reducible refine an ?_ ?_); focus exact As)
    refine (h1).val.use ?_; simp only [go_sem]
    repeat (first | ((with_reducible refine AWp.ofC ?_ ?_); (focus exact rfl); simp only [go_sem]) | ((with_reducible refine an ?_ ?_); focus exact Au))
    refine ret_view [] ?_; simp only [go_sem]
    exact .mkTup (Vws.cons (.nil 1) (Vws.refl _))
  | true =>
    rw [hv] at h1
    have h2 := h2 hv
    by_cases h5 : (cutsF ps).length ≤ 5000
    · rw [if_neg (by omega)] at h2
      rw [if_pos rfl, if_pos h5, if_pos rfl]
      generalize cutsF ps = cs at *
      refine PC.enter 17 [.tmp 2, .tmp 3] [1] Go.Proofs.Tryz.func14 rfl rfl rfl rfl rfl (by simp) (AWp.of ?_); simp only [go_sem]
      repeat (first | ((with_reducible refine AWp.ofC ?_ ?_); (focus exact rfl); simp only [go_sem]) | ((with_reducible refine an ?_ ?_); focus exact Au))
      repeat ((with_reducible refine an ?_ ?_); focus exact As)
      refine (h1).val.use ?_; simp only [go_sem]
      repeat (first | ((with_reducible refine AWp.ofC ?_ ?_); (focus exact rfl); simp only [go_sem]) | ((with_reducible refine an ?_ ?_); focus exact Au))
      repeat ((with_reducible refine an ?_ ?_); focus exact As)
      refine (h2).val.use ?_; simp only [go_sem]
      repeat (first | ((with_reducible refine AWp.ofC ?_ ?_); (focus exact rfl); simp only [go_sem]) | ((with_reducible refine an ?_ ?_); focus exact Au))
      refine ret_eq ?_; simp only [go_sem]
    · rw [if_pos (by omega)] at h2
      rw [if_pos rfl, if_neg h5, if_neg (by decide)]
      refine PC.enter 17 [.tmp 2, .tmp 3] [1] Go.Proofs.Tryz.func14 rfl rfl rfl rfl rfl (by simp) (AWp.of ?_); simp only [go_sem]
      repeat (first | ((with_reducible refine AWp.ofC ?_ ?_); (focus exact rfl); simp only [go_sem]) | ((with_reducible refine an ?_ ?_); focus exact Au))
      repeat ((with_reducible refine an ?_ ?_); focus exact As)
      refine (h1).val.use ?_; simp only [go_sem]
      repeat (first | ((with_reducible refine AWp.ofC ?_ ?_); (focus exact rfl); simp only [go_sem]) | ((with_reducible refine an ?_ ?_); focus exact Au))
      repeat ((with_reducible refine an ?_ ?_); focus exact As)
      refine (h2).val.use ?_; simp only [go_sem]
      repeat (first | ((with_reducible refine AWp.ofC ?_ ?_); (focus exact rfl); simp only [go_sem]) | ((with_reducible refine an ?_ ?_); focus exact Au))
      refine ret_view [] ?_; simp only [go_sem]
      exact .mkTup (Vws.cons (.nil 1) (Vws.refl _))
end Go.AL
end
