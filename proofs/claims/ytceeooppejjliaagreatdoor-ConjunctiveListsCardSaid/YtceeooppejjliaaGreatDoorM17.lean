/- Texts of this claim's proof: WGa, WXv. No condition. -/
import Derived.Test.YtceeooppejjliaaGreatDoorM16
import Derived.Test.YtceeooppejjliaaGreatDoorM10
import Derived.Test.YtceeooppejjliaaGreatDoorM13
import Derived.Test.YtceeooppejjliaaGreatDoorM15
section
/- Lists of states: the reference of layer 37. No condition. -/
namespace Go.AL
open Go Go.RowKit
set_option maxRecDepth 4000
theorem ref37_Lists (ps : List Pr) (hs : Sm ps) (l : List (List Int)) (hl : l.length ≤ 1000000) (hx : ∀ x ∈ l, x.length ≤ 1000000) : PC Go.Proofs.Tryz.prog 22 [aTr ps, aRows l] (ai (listsF ps l)) := by
  have h1 := ref12_Valid ps hs
  by_cases hv : validF ps = true ∧ l.length = ps.length
  · have hvl : (l.length : Int) = ps.length := by omega
    rw [hv.1] at h1
    have h2 := fun p hp i hi hb => listsF_two hv (p := p) hp (i := i) hi hb
    have h0 := listsF_zero hv
    generalize listsF ps l = F at *
    unfold aRows
    refine PC.enter 80 [.tmp 4] [2] Go.Proofs.Tryz.func22 rfl rfl rfl rfl rfl (by simp) (AWp.of ?_); simp only [go_sem]
    repeat (first | ((with_reducible refine AWp.ofC ?_ ?_); (focus exact rfl); simp only [go_sem]) | ((with_reducible refine an ?_ ?_); focus exact Au))
    repeat ((with_reducible refine an ?_ ?_); focus exact As)
    refine (h1).val.use ?_; simp only [go_sem, hvl]
    repeat (first | ((with_reducible refine AWp.ofC ?_ ?_); (focus exact rfl); simp only [go_sem, hvl]) | ((with_reducible refine an ?_ ?_); focus exact Au))
    refine AWp.block (AWp.count 5 ps.length [] [1, 2] (fun p vs L => L = [] ∧ ∀ q (hq : q < l.length), q < p → ∀ i, i < l[q].length → ¬ BadI (nev ps q) l[q] i) rfl rfl ⟨rfl, fun q hq h => by omega⟩ ?_)
    rintro p vs L hpl - ⟨rfl, hJ⟩
    simp only [go_sem]
    repeat (first | ((with_reducible refine AWp.ofC ?_ ?_); (focus exact rfl); simp only [go_sem, hvl]) | ((with_reducible refine an ?_ ?_); focus exact Au))
    refine ⟨fun h4 => ?_, fun h4 => ?_⟩
    · have hpp : p < ps.length := by omega
      have hp : p < l.length := by omega
      have hgl : (l.map aInts).getD p .any = .sl 1 (l[p].map ai) := getD_map (f := aInts) hp
      have hgp := getD_map (f := aPr) hpp
      have hel := hs.evs _ (List.getElem_mem hpp)
      have hxl := hx _ (List.getElem_mem hp)
      have hn : nev ps p = ps[p].evs.length := nev_get hpp
      have h2 := h2 p hp
      rw [hn] at h2
      have hJ2 : (∀ i, i < l[p].length → ¬ BadI ps[p].evs.length l[p] i) → ∀ q (hq : q < l.length), q < p + 1 → ∀ i, i < l[q].length → ¬ BadI (nev ps q) l[q] i := fun e q hq h => by
        by_cases eq : q = p
        · subst eq; rw [hn]; exact e
        · exact hJ q hq (by omega)
      generalize l[p] = x at *
      generalize ps[p] = y at *
      repeat (first | ((with_reducible refine AWp.ofC ?_ ?_); (focus exact rfl); simp only [go_sem]) | ((with_reducible refine an ?_ ?_); focus exact Au))
      refine AWp.block (AWp.count 6 x.length [] [1, 2, 5] (fun i vs L => L = [] ∧ ∀ j, j < i → ¬ BadI y.evs.length x j) rfl rfl ⟨rfl, fun j h => by omega⟩ ?_)
      rintro i vs L hi - ⟨rfl, hK⟩
      simp only [go_sem]
      repeat (first | ((with_reducible refine AWp.ofC ?_ ?_); (focus exact rfl); simp only [go_sem, hgl, hvl]) | ((with_reducible refine an ?_ ?_); focus exact Au))
      refine ⟨fun h5 => ?_, fun h5 => ?_⟩
      · have hi : i < x.length := by omega
        have g0 := getD_ai hi
        have g1 := getD_ai (show i - 1 < x.length by omega)
        have gi : ((i : Int) - 1).toNat = i - 1 := by omega
        have h2 := h2 i hi
        unfold BadI at h2
        refine AWp.seq (AWp.block (AWp.seq ?_))
        refine AWp.mix mixed [0, 1, 2, 3, 4, 5, 6, 7, 8, 9, 10, 11, 12, 13, 14, 15, 16, 17, 18, 19, 20, 21, 22, 23, 24, 25, 26, 27, 28, 29, 30, 31, 32, 33, 34, 35, 36, 37, 38, 39, 40, 41, 42, 43, 44, 45, 46] .done (by kernel_rfl) ?_; simp only [go_sem, g0, g1, gi, hgp, hgl, hvl]
        repeat ((with_reducible refine an ?_ ?_); focus exact As)
        repeat (first | ((with_reducible refine AWp.ofC ?_ ?_); (focus exact rfl); simp only [go_sem]) | ((with_reducible refine an ?_ ?_); focus exact Au))
        refine ⟨fun h3 => ?_, fun h3 => ?_⟩
        · repeat (first | ((with_reducible refine AWp.ofC ?_ ?_); (focus exact rfl); simp only [go_sem]) | ((with_reducible refine an ?_ ?_); focus exact Au))
          refine ret_eq ?_; simp only [go_sem]
          rw [h2 (by omega)]
        · intro h6 h7
          repeat (first | ((with_reducible refine AWp.ofC ?_ ?_); (focus exact rfl); simp only [go_sem]) | ((with_reducible refine an ?_ ?_); focus exact Au))
          refine ⟨_, List.Sublist.refl _, rfl, fun j hj => ?_⟩
          by_cases ej : j = i
          · subst ej; unfold BadI; omega
          · exact hK j (by omega)
      · repeat (first | ((with_reducible refine AWp.ofC ?_ ?_); (focus exact rfl); simp only [go_sem]) | ((with_reducible refine an ?_ ?_); focus exact Au))
        exact ⟨_, List.Sublist.refl _, rfl, hJ2 fun i hi => hK i (by omega)⟩
    · repeat (first | ((with_reducible refine AWp.ofC ?_ ?_); (focus exact rfl); simp only [go_sem]) | ((with_reducible refine an ?_ ?_); focus exact Au))
      refine ret_eq ?_; simp only [go_sem]
      rw [h0 fun p hp => hJ p hp (by omega)]
  · rw [listsF_bad hv]
    unfold aRows
    by_cases hv1 : validF ps = true
    · have hvl : ¬ (l.length : Int) = ps.length := fun e => hv ⟨hv1, by omega⟩
      rw [hv1] at h1
      refine PC.enter 80 [.tmp 4] [2] Go.Proofs.Tryz.func22 rfl rfl rfl rfl rfl (by simp) (AWp.of ?_); simp only [go_sem]
      repeat (first | ((with_reducible refine AWp.ofC ?_ ?_); (focus exact rfl); simp only [go_sem]) | ((with_reducible refine an ?_ ?_); focus exact Au))
      repeat ((with_reducible refine an ?_ ?_); focus exact As)
      refine (h1).val.use ?_; simp only [go_sem, hvl]
      repeat (first | ((with_reducible refine AWp.ofC ?_ ?_); (focus exact rfl); simp only [go_sem, hvl]) | ((with_reducible refine an ?_ ?_); focus exact Au))
      refine ret_eq ?_; simp only [go_sem]
    · rw [show validF ps = false by simpa using hv1] at h1
      refine PC.enter 80 [.tmp 4] [2] Go.Proofs.Tryz.func22 rfl rfl rfl rfl rfl (by simp) (AWp.of ?_); simp only [go_sem]
      repeat (first | ((with_reducible refine AWp.ofC ?_ ?_); (focus exact rfl); simp only [go_sem]) | ((with_reducible refine an ?_ ?_); focus exact Au))
      repeat ((with_reducible refine an ?_ ?_); focus exact As)
      refine (h1).val.use ?_; simp only [go_sem]
      repeat (first | ((with_reducible refine AWp.ofC ?_ ?_); (focus exact rfl); simp only [go_sem]) | ((with_reducible refine an ?_ ?_); focus exact Au))
      refine ret_eq ?_; simp only [go_sem]
def fillA (n : Nat) (f : Nat → Int) (p : Nat) : List AV := (List.range n).map fun q => ai (if q < p then f q else 0)
theorem fillA_len (n : Nat) (f : Nat → Int) (p : Nat) : (fillA n f p).length = n := by simp [fillA]
theorem fillA_zero (n : Nat) (f : Nat → Int) : List.replicate n (ai 0) = fillA n f 0 := by unfold fillA; apply List.ext_getElem (by simp); intro i h1 h2; simp
theorem fillA_set {n : Nat} {f : Nat → Int} {p : Nat} : (fillA n f p).set p (ai (f p)) = fillA n f (p + 1) := by
  unfold fillA
  rw [map_range_set]; congr 1; funext q
  by_cases e : q = p
  · rw [if_pos e, if_pos (by omega), e]
  · rw [if_neg e]
    by_cases e2 : q < p
    · rw [if_pos e2, if_pos (by omega)]
    · rw [if_neg e2, if_neg (by omega)]
theorem fillA_get {n : Nat} {f : Nat → Int} {p : Nat} (hp : p < n) : (fillA n f p).getD p .any = ai 0 := by
  have := map_range_getD hp (fun q => ai (if q < p then f q else 0))
  rw [if_neg (Nat.lt_irrefl p)] at this
  exact this
theorem fillA_full (n : Nat) (l : List (List Int)) (a : Nat → Nat) : fillA n (nowF l a) n = (nowL n l a).map ai := by
  unfold fillA nowL
  rw [List.map_map]
  refine List.map_congr_left fun q hq => ?_
  rw [if_pos (List.mem_range.1 hq)]; rfl
/-- Who lags moves on. -/
def mvF (a : Nat → Nat) (g : Nat → Bool) (p : Nat) : Nat → Nat := fun q => if q < p ∧ g q = true then a q + 1 else a q
theorem mvF_zero (a : Nat → Nat) (g : Nat → Bool) : mvF a g 0 = a := by funext q; unfold mvF; rw [if_neg (by omega)]
theorem mvF_at (a : Nat → Nat) (g : Nat → Bool) (p : Nat) : mvF a g p p = a p := by unfold mvF; rw [if_neg (by omega)]
theorem mvF_no {a : Nat → Nat} {g : Nat → Bool} {p : Nat} (h : g p = false) : mvF a g (p + 1) = mvF a g p := by
  funext q; unfold mvF
  by_cases e : q = p
  · subst e; rw [if_neg (by rw [h]; simp), if_neg (by omega)]
  · by_cases e2 : q < p ∧ g q = true
    · rw [if_pos e2, if_pos ⟨by omega, e2.2⟩]
    · rw [if_neg e2, if_neg fun h => e2 ⟨by omega, h.2⟩]
theorem mvF_set {n p : Nat} {a : Nat → Nat} {g : Nat → Bool} (h : g p = true) : (dnA n (mvF a g p)).set p (ai ((a p : Int) + 1)) = dnA n (mvF a g (p + 1)) := by
  refine dnA_set ?_ fun q hq => ?_
  · unfold mvF; rw [if_pos ⟨by omega, h⟩]; omega
  · unfold mvF
    by_cases e2 : q < p ∧ g q = true
    · rw [if_pos e2, if_pos ⟨by omega, e2.2⟩]
    · rw [if_neg e2, if_neg fun h => e2 ⟨by omega, h.2⟩]
theorem totS_le2 {c c' : Nat → Nat} : ∀ n, (∀ q, q < n → c' q ≤ c q) → totS n c' ≤ totS n c
  | 0, _ => by simp [totS]
  | n + 1, h => by
    rw [totS_succ, totS_succ]
    have := totS_le2 n fun q hq => h q (by omega)
    have := h n (by omega)
    omega
theorem totS_lt2 {c c' : Nat → Nat} {p : Nat} : ∀ n, (∀ q, q < n → c' q ≤ c q) → p < n → c' p < c p → totS n c' < totS n c
  | 0, _, hp, _ => by omega
  | n + 1, h, hp, hlt => by
    rw [totS_succ, totS_succ]
    have h1 := h n (by omega)
    by_cases e : p = n
    · subst e
      have := totS_le2 p fun q hq => h q (by omega)
      omega
    · have := totS_lt2 n (fun q hq => h q (by omega)) (by omega) hlt
      omega
set_option maxHeartbeats 1000000 in
theorem ref37_First (ps : List Pr) (hs : Sm ps) (l : List (List Int)) (hl : l.length ≤ 1000000) (hx : ∀ x ∈ l, x.length ≤ 1000000) (E : Elim) (hN : NeedOk ps E) (hf : listsF ps l = 0) (hok : LstOk ps l E) :
    PC Go.Proofs.Tryz.prog 23 [aTr ps, aRows l] (if lostF E = true then .tup [.sl 1 [], ab false] else .tup [aInts (cutL ps.length (finF E)), ab true]) := by
  have hps := hs.procs
  obtain ⟨hv, hll, hbad⟩ := listsF_inv hf
  have hvl : (l.length : Int) = ps.length := by omega
  have hnone := fun a (h : AtOk ps E l a) p hp hn => (at_none h (p := p) hp hn)
  have hlost : (¬ ∃ d, SatD ps E d) → lostF E = true := fun h => by
    cases e : lostF E with
    | true => rfl
    | false => exact absurd ((lost_iff hv hN).1 e) h
  have hdone := fun a h ha hd => at_done hv hN hok hf (a := a) h ha hd
  have hstep := fun a h ha => at_step hv hf (E := E) (a := a) h ha
  have hzero := at_zero hf hok
  have hcl := fun a ha => ref22_Close ps hs hv (nowL ps.length l a) (nowL_len _ _ _) (now_rng hf ha)
  have hlx : ∀ p, p < ps.length → (l.getD p []).length ≤ 1000000 := fun p hp => by
    rw [lst_get (show p < l.length by omega)]; exact hx _ (List.getElem_mem _)
  generalize lostF E = lo at *
  generalize finF E = fin at *
  unfold aRows
  refine PC.enter 76 [.tmp 4, .tmp 5] [2] Go.Proofs.Tryz.func23 rfl rfl rfl rfl rfl (by simp) (AWp.of ?_); simp only [go_sem]
  repeat (first | ((with_reducible refine AWp.ofC ?_ ?_); (focus exact rfl); simp only [go_sem, hvl]) | ((with_reducible refine an ?_ ?_); focus exact Au))
  intro b6
  repeat (first | ((with_reducible refine AWp.ofC ?_ ?_); (focus exact rfl); simp only [go_sem, hvl]) | ((with_reducible refine an ?_ ?_); focus exact Au))
  have hd0 : List.replicate ps.length (ai 0) = dnA ps.length (fun _ => 0) := by unfold dnA; apply List.ext_getElem (by simp); intro i h1 h2; simp
  rw [hd0]
  refine AWp.block (AWp.loopN [] [1, 2, 6] (fun m vs L => ∃ a : Nat → Nat, L = [(b6, .row 3 1 (dnA ps.length a) ps.length)] ∧ AtOk ps E l a ∧ (∀ p, p < ps.length → a p ≤ (l.getD p []).length) ∧ m = totS ps.length fun p => (l.getD p []).length - a p) (totS ps.length fun p => (l.getD p []).length - 0) ?_ ?_)
  · exact ⟨fun _ => 0, rfl, hzero, fun _ _ => Nat.zero_le _, rfl⟩
  rintro m vs L - ⟨a, rfl, hA, hal, rfl⟩
  simp only [go_sem]
  repeat (first | ((with_reducible refine AWp.ofC ?_ ?_); (focus exact rfl); simp only [go_sem, hvl]) | ((with_reducible refine an ?_ ?_); focus exact Au))
  intro b7 g7
  have n67 : ¬ b6 = b7 := by omega
  have n76 : ¬ b7 = b6 := by omega
  repeat (first | ((with_reducible refine AWp.ofC ?_ ?_); (focus exact rfl); simp only [go_sem, hvl]) | ((with_reducible refine an ?_ ?_); focus exact Au))
  rw [fillA_zero ps.length (nowF l a)]
  refine AWp.block (AWp.count 8 ps.length [] [1, 2, 6, 7] (fun p vs L => L = [(b7, .row 3 1 (fillA ps.length (nowF l a) p) ps.length), (b6, .row 3 1 (dnA ps.length a) ps.length)] ∧ ∀ q, q < p → a q < (l.getD q []).length) rfl rfl ⟨rfl, fun q h => by omega⟩ ?_)
  rintro p vs L hp - ⟨rfl, hJ⟩
  simp only [go_sem]
  repeat (first | ((with_reducible refine AWp.ofC ?_ ?_); (focus exact rfl); simp only [go_sem, hvl]) | ((with_reducible refine an ?_ ?_); focus exact Au))
  refine ⟨fun h2 => ?_, fun h2 => ?_⟩
  · have hpp : p < ps.length := by omega
    have hpl : p < l.length := by omega
    have hgl : (l.map aInts).getD p .any = .sl 1 ((l.getD p []).map ai) := by rw [lst_get hpl]; exact getD_map (f := aInts) hpl
    have hga := dnA_get hpp a
    have hlx := hlx p hpp
    have hfl := fillA_len ps.length (nowF l a) p
    have hfs := fillA_set (n := ps.length) (f := nowF l a) (p := p)
    have hfg := fillA_get (n := ps.length) (f := nowF l a) (p := p) hpp
    have hnow : a p < (l.getD p []).length → ((l.getD p []).map ai).getD (a p) .any = ai (nowF l a p) := fun h => getD_ai h
    have hno := hnone a hA p hpp
    have halp := hal p hpp
    have hJ2 : a p < (l.getD p []).length → ∀ q, q < p + 1 → a q < (l.getD q []).length := fun h q hq => by
      by_cases e : q = p
      · subst e; exact h
      · exact hJ q (by omega)
    generalize l.getD p [] = x at *
    refine AWp.seq (AWp.block (AWp.seq (AWp.seq ?_)))
    refine AWp.mix mixed [0, 1, 2, 4, 5, 6, 7, 8] (.step 3 (.step 9 .done .done) .done) (by kernel_rfl) ?_; simp only [go_sem, hgl, hga, dnA_length, n67, n76]
    repeat ((with_reducible refine an ?_ ?_); focus exact As)
    repeat (first | ((with_reducible refine AWp.ofC ?_ ?_); (focus exact rfl); simp only [go_sem]) | ((with_reducible refine an ?_ ?_); focus exact Au))
    refine ⟨fun h3 => ?_, fun h3 => ?_⟩
    · repeat (first | ((with_reducible refine AWp.ofC ?_ ?_); (focus exact rfl); simp only [go_sem]) | ((with_reducible refine an ?_ ?_); focus exact Au))
      have := hlost (hno (by omega))
      subst this
      (try rw [if_pos rfl])
      refine ret_view [] ?_; simp only [go_sem]
      exact .mkTup (Vws.cons (.nil 1) (Vws.refl _))
    · have hnow := hnow (by omega)
      refine AWp.mix mixed [0, 1, 2, 3, 4, 5, 6, 7, 8] (.step 9 (.step 10 (.step 11 (.step 12 (.step 13 .done .done) .done) .done) .done) .done) (by kernel_rfl) ?_; simp only [go_sem, hgl, hga, dnA_length, n67, n76, hnow, hfl, hfg]
      repeat ((with_reducible refine an ?_ ?_); focus exact As)
      repeat (first | ((with_reducible refine AWp.ofC ?_ ?_); (focus exact rfl); simp only [go_sem]) | ((with_reducible refine an ?_ ?_); focus exact Au))
      refine ⟨_, List.Sublist.refl _, ?_, hJ2 (by omega)⟩
      rw [← hfs]
  · have hall : ∀ q, q < ps.length → a q < (l.getD q []).length := fun q hq => hJ q (by omega)
    have hcl := hcl a hall
    have hdone := hdone a hA hall
    have hstep := hstep a hA hall
    have hpe : p = ps.length := by omega
    obtain ⟨c1, _, _⟩ := closeF_ok hv (nowL_len ps.length l a) (now_rng hf hall)
    have hnl := nowL_len ps.length l a
    have hng : ∀ q, q < ps.length → ((nowL ps.length l a).map ai).getD q .any = ai (nowF l a q) := fun q hq => by rw [getD_map (by rw [hnl]; exact hq), ← cAt_nat, nowL_cAt hq]
    have hcg : ∀ q, q < ps.length → ((closeF ps (nowL ps.length l a)).map ai).getD q .any = ai (cAt (closeF ps (nowL ps.length l a)) q) := fun q hq => by rw [getD_map (by rw [c1]; exact hq), ← cAt_nat]
    obtain ⟨g, hg⟩ : ∃ g : Nat → Bool, ∀ q, g q = decide (nowF l a q < cAt (closeF ps (nowL ps.length l a)) q) := ⟨_, fun _ => rfl⟩
    rw [hpe, fillA_full]
    refine AWp.view [true, false] [(7, aInts (nowL ps.length l a))] (LVw.refl _) ?_ ?_
    · intro x hx
      simp only [List.mem_singleton] at hx
      subst hx
      simp only [go_sem, pickT]
      exact Vw.ofLs (t := 3) (cap := ps.length) (by simp only [lk, if_true]) (by rw [List.length_map, hnl])
    simp only [go_sem, pickF]
    repeat (first | ((with_reducible refine AWp.ofC ?_ ?_); (focus exact rfl); simp only [go_sem]) | ((with_reducible refine an ?_ ?_); focus exact Au))
    repeat ((with_reducible refine an ?_ ?_); focus exact As)
    refine (hcl).val.use ?_; simp only [go_sem]
    repeat (first | ((with_reducible refine AWp.ofC ?_ ?_); (focus exact rfl); simp only [go_sem]) | ((with_reducible refine an ?_ ?_); focus exact Au))
    generalize closeF ps (nowL ps.length l a) = C at *
    generalize nowL ps.length l a = N at *
    refine AWp.block (AWp.count 11 ps.length [9] [1, 2, 6, 7, 10] (fun p vs L => ∃ mv : Bool, vs = [ab mv] ∧ L = [(b6, .row 3 1 (dnA ps.length (mvF a g p)) ps.length)] ∧ (mv = false → ∀ q, q < p → g q = false) ∧ (mv = true → ∃ q, q < p ∧ g q = true)) rfl rfl ⟨false, rfl, by rw [mvF_zero], (fun _ q hq => by omega), (fun h => by cases h)⟩ ?_)
    rintro p vs L hp - ⟨mv, rfl, rfl, hm0, hm1⟩
    simp only [go_sem]
    repeat (first | ((with_reducible refine AWp.ofC ?_ ?_); (focus exact rfl); simp only [go_sem, hvl]) | ((with_reducible refine an ?_ ?_); focus exact Au))
    refine ⟨fun h4 => ?_, fun h4 => ?_⟩
    · have hpp : p < ps.length := by omega
      have g1 := hng p hpp
      have g2 := hcg p hpp
      have hgp := hg p
      have hga := dnA_get hpp (mvF a g p)
      rw [mvF_at] at hga
      have hal := hal p hpp
      have hlx := hlx p hpp
      refine AWp.seq (AWp.block (AWp.seq ?_))
      refine AWp.mix mixed [0, 1, 2, 3, 4, 5, 6, 7, 8] .done (by kernel_rfl) ?_; simp only [go_sem, g1, g2, hga, dnA_length]
      repeat ((with_reducible refine an ?_ ?_); focus exact As)
      repeat (first | ((with_reducible refine AWp.ofC ?_ ?_); (focus exact rfl); simp only [go_sem, hga, dnA_length]) | ((with_reducible refine an ?_ ?_); focus exact Au))
      refine ⟨fun h5 => ?_, fun h5 => ?_⟩
      · have hgt : g p = true := by rw [hgp]; exact decide_eq_true h5
        have hset := mvF_set (n := ps.length) (a := a) hgt
        repeat (first | ((with_reducible refine AWp.ofC ?_ ?_); (focus exact rfl); simp only [go_sem, hga, dnA_length]) | ((with_reducible refine an ?_ ?_); focus exact Au))
        refine ⟨_, List.Sublist.refl _, true, rfl, ?_, (fun h => by cases h), fun _ => ⟨p, by omega, hgt⟩⟩
        rw [← hset]
      · have hgf : g p = false := by rw [hgp]; exact decide_eq_false h5
        repeat (first | ((with_reducible refine AWp.ofC ?_ ?_); (focus exact rfl); simp only [go_sem]) | ((with_reducible refine an ?_ ?_); focus exact Au))
        refine ⟨_, List.Sublist.refl _, mv, rfl, by rw [mvF_no hgf], fun h q hq => ?_, fun h => ?_⟩
        · by_cases e : q = p
          · subst e; exact hgf
          · exact hm0 h q (by omega)
        · obtain ⟨q, hq, h⟩ := hm1 h
          exact ⟨q, by omega, h⟩
    · have hpe : p = ps.length := by omega
      subst hpe
      cases mv with
      | false =>
        obtain ⟨e1, e2⟩ := hdone fun q hq => by
          have := hm0 rfl q hq
          rw [hg] at this
          exact of_decide_eq_false this
        subst e1
        (try rw [if_neg (by decide)])
        rw [e2]
        repeat (first | ((with_reducible refine AWp.ofC ?_ ?_); (focus exact rfl); simp only [go_sem]) | ((with_reducible refine an ?_ ?_); focus exact Au))
        refine ret_view [] ?_; simp only [go_sem]
        exact .refl _
      | true =>
        obtain ⟨q, hq, hgq⟩ := hm1 rfl
        repeat (first | ((with_reducible refine AWp.ofC ?_ ?_); (focus exact rfl); simp only [go_sem]) | ((with_reducible refine an ?_ ?_); focus exact Au))
        refine ⟨_, List.Sublist.refl _, _, ?_, mvF a g ps.length, rfl, fun d hd p hp => ?_, fun p hp => ?_, rfl⟩
        · refine totS_lt2 (p := q) _ (fun p hp => ?_) hq ?_
          · unfold mvF; split <;> omega
          · have := hall q hq
            unfold mvF
            rw [if_pos ⟨hq, hgq⟩]; omega
        · obtain ⟨i, i1, i2, i3⟩ := hstep d hd p hp
          refine ⟨i, ?_, i2, i3⟩
          dsimp only at i1
          unfold mvF
          by_cases e : g p = true
          · rw [if_pos ⟨hp, e⟩]
            rw [if_pos (by rw [hg] at e; exact of_decide_eq_true e)] at i1
            exact i1
          · rw [if_neg fun h => e h.2]
            rw [if_neg (by rw [hg] at e; simpa using e)] at i1
            exact i1
        · have := hall p hp
          unfold mvF; split <;> omega
end Go.AL
end
section
/- The law ConjunctiveLists: the walk. No condition. -/
namespace Go.AL
open Go Go.RowKit
set_option maxRecDepth 4000
def long100 (x : List Int) : Bool := decide (100 < (x.length : Int))
/-- An elimination over lists. -/
def lstE (ps : List Pr) (l : List (List Int)) : Elim := ⟨ps.length, nev ps, fun p k => decide ((k : Int) ∈ l.getD p []), fun q k p => cAt (closeF ps (stC ps.length q k)) p⟩
theorem lstE_need (ps : List Pr) (l : List (List Int)) : NeedOk ps (lstE ps l) := ⟨rfl, fun _ hp => nev_get hp, fun _ _ _ => rfl⟩
theorem lstE_ok (ps : List Pr) (l : List (List Int)) : LstOk ps l (lstE ps l) := fun p hp _ k _ => by
  show decide ((k : Int) ∈ l.getD p []) = _
  rw [lst_get hp]
theorem lstE_sm {ps : List Pr} (hs : Sm ps) (l : List (List Int)) : SmE (lstE ps l) := ⟨hs.procs, (elim_sm hs []).top⟩
theorem law37_Lists1 (x : List Int) : PC Go.Proofs.Tryz.prog 20 [aInts x] (ab (long100 x)) := by
  refine PC.enter 6 [.tmp 2] [] Go.Proofs.Tryz.func20 rfl rfl rfl rfl rfl (by simp) (AWp.of ?_); simp only [go_sem]
  repeat (first | ((with_reducible refine AWp.ofC ?_ ?_); (focus exact rfl); simp only [go_sem]) | ((with_reducible refine an ?_ ?_); focus exact Au))
  refine ret_eq ?_; simp only [go_sem]
  rfl
theorem law37_ConjunctiveLists (ps : List Pr) (l : List (List Int)) : PC Go.Proofs.Tryz.prog 4 [aTr ps, aRows l] (ab true) := by
  have haw := law37_awake
  have hbig := law37_big ps
  have hsm := @bigF_sm ps
  have hsize := fun h => law37_size ps h
  have hlong := fun hl => rows_containsFunc l hl (.v (.func (.func 20) #[] #[])) rfl long100 fun x _ => (law37_Lists1 x).val
  have hR : aRows l = .sl 1 (l.map aInts) := rfl
  have hx : (l.any long100) = false → ∀ x ∈ l, x.length ≤ 1000000 := fun h x hx => by
    rw [List.any_eq_false] at h
    have := h x hx
    unfold long100 at this
    simp at this; omega
  refine PC.enter 69 [.tmp 4] [2] Go.Proofs.Tryz.func4 rfl rfl rfl rfl rfl (by simp) (AWp.of ?_); simp only [go_sem]
  repeat (first | ((with_reducible refine AWp.ofC ?_ ?_); (focus exact rfl); simp only [go_sem]) | ((with_reducible refine an ?_ ?_); focus exact Au))
  repeat ((with_reducible refine an ?_ ?_); focus exact As)
  refine (haw).val.use ?_; simp only [go_sem]
  repeat (first | ((with_reducible refine AWp.ofC ?_ ?_); (focus exact rfl); simp only [go_sem]) | ((with_reducible refine an ?_ ?_); focus exact Au))
  repeat ((with_reducible refine an ?_ ?_); focus exact As)
  refine (hbig).val.use ?_; simp only [go_sem]
  refine GCall.use (ai (off ps ps.length)) ?_ ?_
  · intro g; exact ⟨At, (hsize (hsm g)).val.use ⟨rfl, rfl⟩⟩
  simp only [go_sem]
  repeat ((with_reducible refine an ?_ ?_); focus exact As)
  refine GCall.use (ab (l.any long100)) ?_ ?_
  · intro g; exact ⟨At, (hlong (by have := g; simp at this; omega)).val.use ⟨rfl, rfl⟩⟩
  simp only [go_sem]
  repeat ((with_reducible refine an ?_ ?_); focus exact As)
  repeat (first | ((with_reducible refine AWp.ofC ?_ ?_); (focus exact rfl); simp only [go_sem]) | ((with_reducible refine an ?_ ?_); focus exact Au))
  refine ⟨fun h1 => ?_, fun h1 => ?_⟩
  · repeat (first | ((with_reducible refine AWp.ofC ?_ ?_); (focus exact rfl); simp only [go_sem]) | ((with_reducible refine an ?_ ?_); focus exact Au))
    refine ret_eq ?_; simp only [go_sem]
  intro h2 h3 h4
  have hs := hsm h1
  have hx := hx h4
  have hN := lstE_need ps l
  have hok := lstE_ok ps l
  have hF := conj_First ps hs l (by omega) hx (lstE ps l) hN (lstE_sm hs l) fun _ => hok
  have hL := ref37_Lists ps hs l (by omega) hx
  have hG := fun hf => ref37_First ps hs l (by omega) hx (lstE ps l) hN hf hok
  have hEn : (lstE ps l).n = ps.length := rfl
  have hps := hs.procs
  have hsq := ints_equal (cutL ps.length (finF (lstE ps l))) (cutL ps.length (finF (lstE ps l))) (by rw [cutL_len]; omega)
  rw [decide_eq_true rfl] at hsq
  unfold aFirst at hF
  rw [hEn] at hF
  clear haw hbig hsm hsize hlong
  generalize lostF (lstE ps l) = lo at *
  generalize finF (lstE ps l) = fin at *
  by_cases hf : listsF ps l = 0
  · have hG := hG hf
    rw [if_neg (by simpa using hf)] at hF
    rw [hf] at hL
    cases lo with
    | true =>
      rw [if_pos rfl] at hF hG
      repeat (first | ((with_reducible refine AWp.ofC ?_ ?_); (focus exact rfl); simp only [go_sem]) | ((with_reducible refine an ?_ ?_); focus exact Au))
      repeat ((with_reducible refine an ?_ ?_); focus exact As)
      refine (hF).val.use ?_; simp only [go_sem]
      repeat (first | ((with_reducible refine AWp.ofC ?_ ?_); (focus exact rfl); simp only [go_sem]) | ((with_reducible refine an ?_ ?_); focus exact Au))
      repeat ((with_reducible refine an ?_ ?_); focus exact As)
      refine (hL).val.use ?_; simp only [go_sem]
      repeat (first | ((with_reducible refine AWp.ofC ?_ ?_); (focus exact rfl); simp only [go_sem]) | ((with_reducible refine an ?_ ?_); focus exact Au))
      repeat ((with_reducible refine an ?_ ?_); focus exact As)
      refine (hG).val.use ?_; simp only [go_sem]
      repeat (first | ((with_reducible refine AWp.ofC ?_ ?_); (focus exact rfl); simp only [go_sem]) | ((with_reducible refine an ?_ ?_); focus exact Au))
      refine ret_eq ?_; simp only [go_sem]
      rfl
    | false =>
      rw [if_neg (by decide)] at hF hG
      repeat (first | ((with_reducible refine AWp.ofC ?_ ?_); (focus exact rfl); simp only [go_sem]) | ((with_reducible refine an ?_ ?_); focus exact Au))
      repeat ((with_reducible refine an ?_ ?_); focus exact As)
      refine (hF).val.use ?_; simp only [go_sem]
      repeat (first | ((with_reducible refine AWp.ofC ?_ ?_); (focus exact rfl); simp only [go_sem]) | ((with_reducible refine an ?_ ?_); focus exact Au))
      repeat ((with_reducible refine an ?_ ?_); focus exact As)
      refine (hL).val.use ?_; simp only [go_sem]
      repeat (first | ((with_reducible refine AWp.ofC ?_ ?_); (focus exact rfl); simp only [go_sem]) | ((with_reducible refine an ?_ ?_); focus exact Au))
      repeat ((with_reducible refine an ?_ ?_); focus exact As)
      refine (hG).val.use ?_; simp only [go_sem]
      repeat (first | ((with_reducible refine AWp.ofC ?_ ?_); (focus exact rfl); simp only [go_sem]) | ((with_reducible refine an ?_ ?_); focus exact Au))
      repeat ((with_reducible refine an ?_ ?_); focus exact As)
      refine GCall.use (ab true) (fun _ => ⟨At, (hsq).val.use ⟨rfl, rfl⟩⟩) ?_; simp only [go_sem]
      repeat ((with_reducible refine an ?_ ?_); focus exact As)
      repeat (first | ((with_reducible refine AWp.ofC ?_ ?_); (focus exact rfl); simp only [go_sem]) | ((with_reducible refine an ?_ ?_); focus exact Au))
      refine ret_eq ?_; simp only [go_sem]
  · rw [if_pos hf] at hF
    generalize listsF ps l = F at *
    repeat (first | ((with_reducible refine AWp.ofC ?_ ?_); (focus exact rfl); simp only [go_sem]) | ((with_reducible refine an ?_ ?_); focus exact Au))
    repeat ((with_reducible refine an ?_ ?_); focus exact As)
    refine (hF).val.use ?_; simp only [go_sem]
    repeat (first | ((with_reducible refine AWp.ofC ?_ ?_); (focus exact rfl); simp only [go_sem]) | ((with_reducible refine an ?_ ?_); focus exact Au))
    repeat ((with_reducible refine an ?_ ?_); focus exact As)
    refine (hL).val.use ?_; simp only [go_sem]
    repeat (first | ((with_reducible refine AWp.ofC ?_ ?_); (focus exact rfl); simp only [go_sem, hf]) | ((with_reducible refine an ?_ ?_); focus exact Au))
    refine ret_eq ?_; simp only [go_sem]
    rfl
end Go.AL
end
