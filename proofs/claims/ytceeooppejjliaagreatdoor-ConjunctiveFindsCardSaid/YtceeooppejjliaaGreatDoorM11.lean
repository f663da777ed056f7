/- Texts of this claim's proof: WLp, WLq, WNd, WBs, WSb. No condition. -/
import Derived.Test.YtceeooppejjliaaGreatDoorM10
section
/- The truth of a local predicate in the states of its process. No condition. -/
namespace Go.AL
open Go Go.RowKit
set_option maxRecDepth 4000
theorem stC_len (n p : Nat) (k : Int) : (stC n p k).length = n := by unfold stC; rw [List.length_set, List.length_replicate]
theorem stC_get {n p : Nat} {k : Int} (hp : p < n) : (stC n p k).getD p 0 = k := by
  unfold stC; rw [List.getD_eq_getElem?_getD, List.getElem?_set_self (by simpa using hp)]; rfl
theorem stC_get? {n p : Nat} {k : Int} (hp : p < n) : (stC n p k)[p]? = some k := by
  unfold stC; rw [List.getElem?_set_self (by simpa using hp)]
def stV (n p : Nat) (st : List Int) : List (List Int) := (List.replicate n []).set p st
theorem stV_len (n p : Nat) (st : List Int) : (stV n p st).length = n := by unfold stV; rw [List.length_set, List.length_replicate]
theorem stV_get {n p : Nat} {st : List Int} (hp : p < (stV n p st).length) : (stV n p st)[p] = st := by simp [stV]
theorem st_leaf (ps : List Pr) (hs : Sm ps) (hv : validF ps = true) (p k : Nat) (hp : p < ps.length) (hk : k ≤ ps[p].evs.length) (t : Pd) (hr : allB (resB ps) t = true) (hn : allB (lclB p) t = true) :
    AllP (leafOk ps (stC ps.length p k) (stV ps.length p (stateAt ps[p] k)) (stO ps p k)) t ∧ AllP (obsB ps (stO ps p k)) t ∧ AllP (leafR ps (stC ps.length p k) (stO ps p k)) t := by
  have hb := allB_and t hr hn
  have hvar : ∀ s, (stO ps p k).var p s = (stateAt ps[p] k).getD (varIx ps[p].vars s).toNat 0 := fun s => by
    unfold stO cutO; simp only [Int.toNat_natCast, List.getElem?_eq_getElem hp, stC_get hp]
  have hcnt : (stO ps p k).cnt p = k := by
    unfold stO cutO; simp only [Int.toNat_natCast, stC_get hp]
  have hx : ∀ x : Pd, andB (resB ps) (lclB p) x = true → ∀ kk n pr q s l, x = .mk kk n pr q s l → ((kk = 2 ∨ kk = 3) → pr = p) ∧ kk ≠ 4 ∧ (kk = 2 → knownB ps pr s = true) := fun x h kk n pr q s l e => by
    subst e
    unfold andB at h
    rw [Bool.and_eq_true] at h
    have h2 := h.2
    rw [lcl_mk] at h2
    have n4 : ¬ (kk = 4 ∨ (18 ≤ kk ∧ kk ≤ 21)) := fun h => by rw [if_pos h] at h2; cases h2
    rw [if_neg n4] at h2
    refine ⟨fun e => ?_, by omega, fun e => ((res_leaf h.1).1 e).2⟩
    rw [if_pos e] at h2
    simpa using h2
  refine ⟨AllP_of_allB (fun x h => ?_) t hb, AllP_of_allB (fun x h => ?_) t hb, AllP_of_allB (fun x h => ?_) t hb⟩
  · obtain ⟨kk, n, pr, q, s, l⟩ := x
    obtain ⟨g1, g2, g3⟩ := hx _ h _ _ _ _ _ _ rfl
    refine ⟨fun e => ?_, fun e => ?_, fun e => absurd e g2⟩
    · obtain rfl := g1 (.inl e)
      have hV : p < (stV ps.length p (stateAt ps[p] k)).length := by rw [stV_len]; exact hp
      have h := view_variable ps hs (stC ps.length p k) (stV ps.length p (stateAt ps[p] k)) kk n p q s l hp (g3 e) hV (by rw [stV_get hV, stateAt_length])
      rw [stV_get hV] at h
      rw [hvar]; exact h
    · obtain rfl := g1 (.inr e)
      exact ⟨by omega, by rw [hcnt, Int.toNat_natCast, stC_get? hp]⟩
  · obtain ⟨kk, n, pr, q, s, l⟩ := x
    obtain ⟨g1, g2, g3⟩ := hx _ h _ _ _ _ _ _ rfl
    refine ⟨fun e => ?_, fun e => ?_, fun e => absurd e g2⟩
    · obtain rfl := g1 (.inl e)
      have hm := valsF_mem ps[p] (varIx ps[p].vars s).toNat (k := k) hk
      rw [hvar]
      unfold varLo varHi
      simp only [Int.toNat_natCast, List.getElem?_eq_getElem hp]
      exact ⟨minL_le hm, le_maxL hm⟩
    · obtain rfl := g1 (.inr e)
      rw [hcnt, evN_get hp]
      exact ⟨by omega, by omega⟩
  · obtain ⟨kk, n, pr, q, s, l⟩ := x
    obtain ⟨g1, g2, g3⟩ := hx _ h _ _ _ _ _ _ rfl
    refine ⟨fun e => ?_, fun e => ?_, g2⟩
    · obtain rfl := g1 (.inl e)
      have hpb : isPB ps.length p = true := by unfold isPB; simp; omega
      have h1 := ref25_Index ps hs p hpb s
      rw [varX_get hp] at h1
      obtain ⟨i, hi, hil⟩ := known_ix (known_get hp (g3 e))
      have h2 := ref25_Value ps hs p hp i hil k hk (asg_of_valid hv p hp) (dis_of_valid hv p hp)
      rw [hi] at h1
      refine ⟨_, _, h1, ?_, by omega, by rw [Int.toNat_natCast, stC_get? hp]⟩
      rw [hvar, hi, Int.toNat_natCast, List.getD_eq_getElem?_getD, List.getElem?_eq_getElem (by rw [stateAt_length]; exact hil)]
      exact h2
    · obtain rfl := g1 (.inr e)
      exact ⟨by omega, by rw [hcnt, Int.toNat_natCast, stC_get? hp]⟩
theorem variable_State (ps : List Pr) (hs : Sm ps) (hv : validF ps = true) (p k : Nat) (hp : p < ps.length) (hk : k ≤ ps[p].evs.length) : PC Go.Proofs.Tryz.prog 150 [aTr ps, ai p, ai k] (.tup [aInts (stateAt ps[p] k), ai 0]) := by
  have hm := List.getElem_mem hp
  have h1 := trace_Valid ps hs
  rw [hv] at h1
  have h2 := variable_state ps[p] (hs.vars _ hm) (hs.evs _ hm) (hs.asg _ hm) (asg_of_valid hv p hp) k hk
  have hl := hs.procs
  have hel := hs.evs _ hm
  have hgp := getD_map (f := aPr) hp
  have n1 : ¬ (p : Int) < 0 := by omega
  have n2 : ¬ (ps.length : Int) ≤ p := by omega
  have n3 : ¬ (k : Int) < 0 := by omega
  have n4 : ¬ (ps[p].evs.length : Int) < k := by omega
  generalize stateAt ps[p] k = S at *
  refine PC.enter 44 [.tmp 6, .tmp 7] [3] Go.Proofs.Tryz.func150 rfl rfl rfl rfl rfl (by simp) (AWp.of ?_); simp only [go_sem]
  repeat (first | ((with_reducible refine AWp.ofC ?_ ?_); (focus exact rfl); simp only [go_sem]) | ((with_reducible refine an ?_ ?_); focus exact Au))
  repeat ((with_reducible refine an ?_ ?_); focus exact As)
  refine (h1).val.use ?_; simp only [go_sem]
  repeat (first | ((with_reducible refine AWp.ofC ?_ ?_); (focus exact rfl); simp only [go_sem, n1, n2, n3, n4, hgp]) | ((with_reducible refine an ?_ ?_); focus exact Au))
  repeat ((with_reducible refine an ?_ ?_); focus exact As)
  refine (h2).val.use ?_; simp only [go_sem]
  repeat (first | ((with_reducible refine AWp.ofC ?_ ?_); (focus exact rfl); simp only [go_sem]) | ((with_reducible refine an ?_ ?_); focus exact Au))
  refine ret_eq ?_; simp only [go_sem]
theorem lcl_ntm {p : Int} (t : Pd) : allB (lclB p) t = true → allB ntmB t = true := by
  induction t using Pd.ind with
  | _ k n pr q s l ih =>
  intro h
  obtain ⟨h1, h2⟩ := allB_sub h
  rw [allB_mk, Bool.and_eq_true, List.all_eq_true]
  refine ⟨?_, fun x hx => ih x hx (h2 x hx)⟩
  rw [lcl_mk] at h1
  unfold ntmB tempB
  split at h1
  · cases h1
  · rename_i h; simp; omega
theorem lcl_ok {ps : List Pr} {p : Nat} {k : Int} {t : Pd} (h : lclF ps p k t = 0) : checkF ps t = 0 ∧ p < ps.length ∧ 0 ≤ k ∧ k ≤ evN ps p ∧ 9 ≤ t.kind ∧ allB (lclB p) t = true := by
  unfold lclF at h
  split at h
  · rename_i h1; exact absurd h h1
  · rename_i h1
    split at h
    · cases h
    · rename_i h2
      split at h
      · cases h
      · rename_i h3
        split at h
        · cases h
        · rename_i h4
          exact ⟨by simpa using h1, by omega, by omega, by omega, by omega, by simpa using h4⟩
theorem evaluate_inState (ps : List Pr) (hs : Sm ps) (p k : Nat) (hp : p < ps.length) (hk : k ≤ ps[p].evs.length) (t : Pd) (hz : szF t ≤ 1000000) (hc : checkF ps t = 0) (h9 : 9 ≤ t.kind) (hl : allB (lclB p) t = true) :
    PC Go.Proofs.Tryz.prog 88 [aTr ps, ai p, ai k, aPd t] (ab (lclT ps p t k)) := by
  obtain ⟨hv, _, hok, hfit⟩ := checkF_zero hc
  have hok' := hok
  unfold okT at hok'
  simp only [Bool.and_eq_true] at hok'
  obtain ⟨l1, l2, _⟩ := st_leaf ps hs hv p k hp hk t hok'.1.2 hl
  have hn := hs.procs
  have h1 := view_truth ps (stC ps.length p k) (stV ps.length p (stateAt ps[p] k)) (stO ps p k) (by rw [stC_len]; omega) t hz hok h9 hfit (lcl_ntm t hl) l2 l1
  have h2 := variable_State ps hs hv p k hp hk
  unfold lclT
  generalize truF (stO ps p k) t = b at *
  obtain ⟨kk, n, pr, q, s, l⟩ := t
  have hC : (stC ps.length p k).map ai = (List.replicate ps.length (ai 0)).set p (ai k) := by unfold stC; rw [List.map_set, List.map_replicate]
  have hTr : aTr ps = .agg [aPrs ps] := rfl
  generalize hS : stateAt ps[p] k = S at *
  simp only [aPd_mk] at *
  refine PC.enter 39 [.tmp 8] [4, 7, 9] Go.Proofs.Tryz.func88 rfl rfl rfl rfl rfl (by simp) (AWp.of ?_); simp only [go_sem]
  repeat (first | ((with_reducible refine AWp.ofC ?_ ?_); (focus exact rfl); simp only [go_sem]) | ((with_reducible refine an ?_ ?_); focus exact Au))
  refine AWp.cut [1, 2, 4, 7, 9] (fun vs L => ∃ bc bv, L.Perm [(bv, .row 42 1 (List.replicate ps.length anil) ps.length), (bc, .row 3 1 (List.replicate ps.length (ai 0)) ps.length)] ∧
    vs = [ai p, ai k, .rp 1 [aTr ps] 0 0, .rp 6 [.agg [ai kk, ai n, ai pr, ai q, astr s, .sl 6 (l.map aPd)]] 0 0, .rp 3 [.agg [aPrs ps, .ls bc 1 0 ps.length ps.length, .ls bv 1 0 ps.length ps.length]] 0 0]) ?_ ?_
  · refine AWp.mix mixed [0, 1, 2, 3, 5, 6, 7] (.step 4 (.step 8 (.step 9 (.step 10 (.step 11 .done .done) .done) (.step 10 (.step 9 (.step 11 .done .done) .done) .done)) (.step 10 (.step 8 (.step 9 (.step 11 .done .done) .done) .done) .done)) (.step 8 (.step 4 (.step 9 (.step 10 (.step 11 .done .done) .done) (.step 10 (.step 9 (.step 11 .done .done) .done) .done)) (.step 10 (.step 4 (.step 9 (.step 11 .done .done) .done) .done) .done)) (.step 10 (.step 4 (.step 8 (.step 9 (.step 11 .done .done) .done) .done) (.step 8 (.step 4 (.step 9 (.step 11 .done .done) .done) .done) .done)) .done))) (by kernel_rfl) ?_; simp only [go_sem]
    repeat' (first | (with_reducible refine And.intro ?_ ?_) | intro _)
    all_goals first | omega | skip
    all_goals ((repeat rw [if_neg (by omega)]); (try simp only [go_sem]))
    all_goals (repeat' (first | (with_reducible refine And.intro ?_ ?_) | intro _))
    all_goals first | omega | exact ⟨_, List.Sublist.refl _, _, _, .refl _, rfl⟩ | exact ⟨_, List.Sublist.refl _, _, _, .swap _ _ _, rfl⟩
  · rintro vs L - ⟨bc, bv, hP, rfl⟩
    refine AWp.perm hP (AWp.nodup fun hnd => ?_)
    have n1 : ¬ bv = bc := by simpa using hnd
    have n2 : ¬ bc = bv := fun e => n1 e.symm
    have hg0 : (List.replicate ps.length (ai 0)).getD p .any = ai 0 := by rw [List.getD_eq_getElem?_getD, List.getElem?_replicate, if_pos hp]; rfl
    have hg1 : (List.replicate ps.length anil).getD p .any = anil := by rw [List.getD_eq_getElem?_getD, List.getElem?_replicate, if_pos hp]; rfl
    simp only [go_sem]
    repeat ((with_reducible refine an ?_ ?_); focus exact As)
    refine AWp.of ?_; simp only [go_sem, n2, hg0, List.length_replicate]
    repeat ((with_reducible refine an ?_ ?_); focus exact As)
    rw [← hC]
    refine AWp.seq ?_
    refine AWp.mix mixed [0, 1, 2, 3, 4, 5, 6, 7, 8, 9] (.step 10 (.step 11 .done .done) .done) (by kernel_rfl) ?_; simp only [go_sem]
    repeat ((with_reducible refine an ?_ ?_); focus exact As)
    refine GCall.use (.tup [aInts S, ai 0]) (fun _ => ⟨At, (h2).val.use ⟨rfl, rfl⟩⟩) ?_; simp only [go_sem, n1, hg1]
    repeat ((with_reducible refine an ?_ ?_); focus exact As)
    refine AWp.view [true, true] [(9, .rp 3 [aView ps (stC ps.length p k) (stV ps.length p S)] 0 0)] (LVw.refl _) (fun x hx => ?_) ?_
    · simp only [List.mem_singleton] at hx
      subst hx
      simp only [go_sem, pickT]
      refine .rp rfl (Vws.cons (.mkAgg (Vws.cons (.refl _) (Vws.cons (Vw.ofLs (t := 3) (cap := ps.length) (by simp [lk, n2]) (by rw [List.length_map, stC_len])) (Vws.cons ?_ .nil)))) .nil).2
      refine .ls (t := 42) (xs := (List.replicate ps.length anil).set p (aInts S)) (cap := ps.length) (by simp [lk, aInts]) (by simp) (by simp [stV]) fun i x y hx hy => ?_
      rw [List.drop_zero, List.take_of_length_le (by simp), List.getElem?_set] at hx
      unfold stV at hy
      rw [List.map_set, List.getElem?_set] at hy
      by_cases e : p = i
      · subst e
        simp [hp] at hx hy
        subst hx; subst hy; exact .refl _
      · rw [if_neg e, List.getElem?_replicate] at hx
        rw [if_neg e, List.getElem?_map, List.getElem?_replicate] at hy
        by_cases h5 : i < ps.length
        · rw [if_pos h5] at hx hy
          cases hx; cases hy
          exact .nil 1
        · rw [if_neg h5] at hx; cases hx
    · simp only [go_sem, pickF]
      repeat (first | ((with_reducible refine AWp.ofC ?_ ?_); (focus exact rfl); simp only [go_sem]) | ((with_reducible refine an ?_ ?_); focus exact Au))
      repeat ((with_reducible refine an ?_ ?_); focus exact As)
      refine (h1).val.use ?_; simp only [go_sem]
      repeat (first | ((with_reducible refine AWp.ofC ?_ ?_); (focus exact rfl); simp only [go_sem]) | ((with_reducible refine an ?_ ?_); focus exact Au))
      refine ret_eq ?_; simp only [go_sem]
end Go.AL
end
section
/- The truths of a local predicate; the reference's truth in a state. No condition. -/
namespace Go.AL
open Go Go.RowKit
set_option maxRecDepth 4000
theorem truthsF_nat {ps : List Pr} {p : Nat} (hp : p < ps.length) (t : Pd) : truthsF ps p t = (List.range (ps[p].evs.length + 1)).map fun (k : Nat) => lclT ps p t k := by
  unfold truthsF; rw [evN_get hp, Int.toNat_natCast]
noncomputable def aTruths (ps : List Pr) (p : Int) (t : Pd) : AV := if lclF ps p 0 t = 0 then .tup [.sl 1 ((truthsF ps p.toNat t).map ab), ai 0] else .tup [.sl 1 [], ai (lclF ps p 0 t)]
theorem evaluate_Truths (ps : List Pr) (hs : Sm ps) (p : Int) (t : Pd) (hz : szF t ≤ 1000000) : PC Go.Proofs.Tryz.prog 39 [aTr ps, ai p, aPd t] (aTruths ps p t) := by
  have h1 := evaluate_check ps hs p 0 t hz
  have hl := hs.procs
  unfold aTruths
  by_cases he : lclF ps p 0 t = 0
  · rw [if_pos he]
    rw [he] at h1
    have hp0 : 0 ≤ p := by
      unfold lclF at he
      split at he
      · rename_i h; exact absurd he h
      · split at he
        · cases he
        · rename_i h; omega
    obtain ⟨i, rfl⟩ : ∃ i : Nat, p = i := ⟨p.toNat, by omega⟩
    rw [Int.toNat_natCast]
    obtain ⟨hc, hp, _, _, h9, hlc⟩ := lcl_ok he
    have hel := hs.evs _ (List.getElem_mem hp)
    have hgp := getD_map (f := aPr) hp
    have hst := fun (k : Nat) hk => evaluate_inState ps hs i k hp hk t hz hc h9 hlc
    rw [truthsF_nat hp, List.map_map]
    have hy : ∀ k, ((List.range k).map fun (k : Nat) => ab (lclT ps i t k)).length = k := fun k => by simp
    have hys : ∀ k, ((List.range (k + 1)).map fun (k : Nat) => ab (lclT ps i t k)) = ((List.range k).map fun (k : Nat) => ab (lclT ps i t k)) ++ [ab (lclT ps i t k)] := fun k => by rw [List.range_succ, List.map_append]; rfl
    have hfin : (List.range (ps[i].evs.length + 1)).map (ab ∘ fun (k : Nat) => lclT ps i t k) = (List.range (ps[i].evs.length + 1)).map fun (k : Nat) => ab (lclT ps i t k) := rfl
    rw [hfin]
    obtain ⟨k0, n, pp, q, s, l⟩ := t
    simp only [aPd_mk] at *
    generalize hY : (fun k : Nat => (List.range k).map fun (j : Nat) => ab (lclT ps i (.mk k0 n pp q s l) j)) = Y at *
    have hYk : ∀ k, ((List.range k).map fun (j : Nat) => ab (lclT ps i (.mk k0 n pp q s l) j)) = Y k := fun k => by rw [← hY]
    simp only [hYk] at hy hys ⊢
    refine PC.enter 39 [.tmp 6, .tmp 7] [3, 5, 35] Go.Proofs.Tryz.func39 rfl rfl rfl rfl rfl (by simp) (AWp.of ?_); simp only [go_sem]
    repeat (first | ((with_reducible refine AWp.ofC ?_ ?_); (focus exact rfl); simp only [go_sem]) | ((with_reducible refine an ?_ ?_); focus exact Au))
    repeat ((with_reducible refine an ?_ ?_); focus exact As)
    refine (h1).val.use ?_; simp only [go_sem]
    repeat (first | ((with_reducible refine AWp.ofC ?_ ?_); (focus exact rfl); simp only [go_sem, hgp]) | ((with_reducible refine an ?_ ?_); focus exact Au))
    refine AWp.range' (ps[i].evs.length + 1) [9] [1, 3, 5, 25] (fun k vs L => ∃ v, vs = [v] ∧ AppSt 4 1 (Y k) v L) (by omega) rfl rfl rfl ⟨anil, rfl, by rw [← hY]; exact .nil⟩ ?_ ?_
    · rintro k vs L' hk - ⟨v, rfl, hA⟩
      have hyl := hy k
      have hst := hst k (by omega)
      rw [hys k]
      have hfo := hA.fo
      generalize Y k = ys at *
      generalize lclT ps i (.mk k0 n pp q s l) k = b at *
      rcases hA.inv with ⟨e1, rfl, rfl⟩ | ⟨b', cap, rfl, rfl⟩
      · simp only [go_sem]
        repeat (first | ((with_reducible refine AWp.ofC ?_ ?_); (focus exact rfl); simp only [go_sem]) | ((with_reducible refine an ?_ ?_); focus exact Au))
        repeat ((with_reducible refine an ?_ ?_); focus exact As)
        refine (hst).val.use ?_; simp only [go_sem]
        repeat ((with_reducible refine an ?_ ?_); focus exact As)
        intro b' cap' _
        refine ⟨_, List.Sublist.refl _, _, rfl, ?_⟩
        rw [e1]
        exact .row _ _ _
      · simp only [go_sem]
        repeat (first | ((with_reducible refine AWp.ofC ?_ ?_); (focus exact rfl); simp only [go_sem]) | ((with_reducible refine an ?_ ?_); focus exact Au))
        repeat ((with_reducible refine an ?_ ?_); focus exact As)
        refine (hst).val.use ?_; simp only [go_sem]
        repeat ((with_reducible refine an ?_ ?_); focus exact As)
        intro b' cap' _
        refine ⟨_, List.Sublist.refl _, _, rfl, ?_⟩
        have := AppSt.row (t := 4) (k := 1) b' (ys ++ [ab b]) cap'
        simpa using this
    · rintro vs L' - ⟨v, rfl, hA⟩
      have hyl := hy (ps[i].evs.length + 1)
      generalize Y (ps[i].evs.length + 1) = ys at *
      simp only [go_sem]
      rcases hA.inv with ⟨e1, rfl, rfl⟩ | ⟨b, cap, rfl, rfl⟩
      · rw [e1] at hyl; simp at hyl
      · repeat (first | ((with_reducible refine AWp.ofC ?_ ?_); (focus exact rfl); simp only [go_sem]) | ((with_reducible refine an ?_ ?_); focus exact Au))
        refine ret_view [true] ?_; simp only [go_sem]
        exact .mkTup (Vws.cons (Vw.ofLs (if_pos rfl) rfl) (Vws.refl _))
  · rw [if_neg he]
    generalize lclF ps p 0 t = e at *
    obtain ⟨k0, n, pp, q, s, l⟩ := t
    simp only [aPd_mk] at *
    refine PC.enter 39 [.tmp 6, .tmp 7] [3, 5, 35] Go.Proofs.Tryz.func39 rfl rfl rfl rfl rfl (by simp) (AWp.of ?_); simp only [go_sem]
    repeat (first | ((with_reducible refine AWp.ofC ?_ ?_); (focus exact rfl); simp only [go_sem]) | ((with_reducible refine an ?_ ?_); focus exact Au))
    repeat ((with_reducible refine an ?_ ?_); focus exact As)
    refine (h1).val.use ?_; simp only [go_sem]
    repeat (first | ((with_reducible refine AWp.ofC ?_ ?_); (focus exact rfl); simp only [go_sem, he]) | ((with_reducible refine an ?_ ?_); focus exact Au))
    refine ret_view [] ?_; simp only [go_sem]
    exact .mkTup (Vws.cons (.nil 1) (Vws.refl _))
theorem ref29_Local (ps : List Pr) (hs : Sm ps) (p k : Nat) (hp : p < ps.length) (hk : k ≤ ps[p].evs.length) (t : Pd) (hz : szF t ≤ 1000000) (hc : checkF ps t = 0) (h9 : 9 ≤ t.kind) (hl : allB (lclB p) t = true) :
    PC Go.Proofs.Tryz.prog 77 [aTr ps, ai p, ai k, aPd t] (ab (lclT ps p t k)) := by
  obtain ⟨hv, _, hok, hfit⟩ := checkF_zero hc
  have hok' := hok
  unfold okT at hok'
  simp only [Bool.and_eq_true] at hok'
  obtain ⟨_, l2, l1⟩ := st_leaf ps hs hv p k hp hk t hok'.1.2 hl
  have hn := hs.procs
  have h1 := ref29_Truth ps (stC ps.length p k) (stO ps p k) (by rw [stC_len]; omega) t hz hok h9 hfit (lcl_ntm t hl) l2 l1
  unfold lclT
  generalize truF (stO ps p k) t = b at *
  obtain ⟨kk, n, pr, q, s, l⟩ := t
  have hC : (stC ps.length p k).map ai = (List.replicate ps.length (ai 0)).set p (ai k) := by unfold stC; rw [List.map_set, List.map_replicate]
  have hg0 : (List.replicate ps.length (ai 0)).getD p .any = ai 0 := by rw [List.getD_eq_getElem?_getD, List.getElem?_replicate, if_pos hp]; rfl
  have hCl : (List.replicate ps.length (ai 0)).length = ps.length := List.length_replicate
  simp only [aPd_mk] at *
  refine PC.enter 22 [.tmp 8] [4, 7] Go.Proofs.Tryz.func77 rfl rfl rfl rfl rfl (by simp) (AWp.of ?_); simp only [go_sem]
  repeat (first | ((with_reducible refine AWp.ofC ?_ ?_); (focus exact rfl); simp only [go_sem]) | ((with_reducible refine an ?_ ?_); focus exact Au))
  repeat ((with_reducible refine an ?_ ?_); focus exact As)
  intro b9
  repeat ((with_reducible refine an ?_ ?_); focus exact As)
  refine AWp.of ?_; simp only [go_sem, hg0, List.length_replicate]
  repeat ((with_reducible refine an ?_ ?_); focus exact As)
  rw [← hC]
  refine AWp.view [true] [(9, aInts (stC ps.length p k))] (LVw.refl _) (fun x hx => ?_) ?_
  · simp only [List.mem_singleton] at hx
    subst hx
    simp only [go_sem, pickT]
    exact Vw.ofLs (t := 3) (cap := ps.length) (by simp only [lk, if_true]) (by rw [List.length_map, stC_len])
  · simp only [go_sem, pickF]
    repeat (first | ((with_reducible refine AWp.ofC ?_ ?_); (focus exact rfl); simp only [go_sem]) | ((with_reducible refine an ?_ ?_); focus exact Au))
    repeat ((with_reducible refine an ?_ ?_); focus exact As)
    refine (h1).val.use ?_; simp only [go_sem]
    repeat (first | ((with_reducible refine AWp.ofC ?_ ?_); (focus exact rfl); simp only [go_sem]) | ((with_reducible refine an ?_ ?_); focus exact Au))
    refine ret_eq ?_; simp only [go_sem]
end Go.AL
end
section
/- What the states of a trace need: the package conjunctive's table. No condition. -/
namespace Go.AL
open Go Go.RowKit
set_option maxRecDepth 4000
theorem Vws.setV {L : AHeap} {xs ys : List AV} {a b : AV} (h : Vws L xs ys) (hab : Vw L a b) (i : Nat) : Vws L (xs.set i a) (ys.set i b) := by
  refine ⟨by rw [List.length_set, List.length_set]; exact h.1, fun j x y hx hy => ?_⟩
  rw [List.getElem?_set] at hx hy
  by_cases e : i = j
  · subst e
    rw [if_pos rfl] at hx hy
    split at hx
    · split at hy
      · cases hx; cases hy; exact hab
      · cases hy
    · cases hx
  · rw [if_neg e] at hx hy; exact h.2 j x y hx hy
/-- Elimination in a trace, with local predicates. -/
noncomputable def elimOf (ps : List Pr) (ts : List Pd) : Elim where
  n := ps.length
  top := nev ps
  ok := fun p k => match ts[p]? with | some t => lclT ps p t k | none => true
  need := fun q k p => cAt (closeF ps (stC ps.length q k)) p
theorem elim_sm {ps : List Pr} (hs : Sm ps) (ts : List Pd) : SmE (elimOf ps ts) := ⟨hs.procs, fun q => by
  show nev ps q ≤ 1000000
  by_cases hq : q < ps.length
  · rw [nev_get hq]; exact hs.evs _ (List.getElem_mem hq)
  · unfold nev; rw [List.getD_eq_getElem?_getD, List.getElem?_eq_none (by omega)]; simp⟩
def doneN (E : Elim) (p : Nat) : List AV := (List.range E.n).map fun q => if q < p then .sl 1 (needM E q) else anil
theorem doneN_len (E : Elim) (p : Nat) : (doneN E p).length = E.n := by simp [doneN]
theorem doneN_zero (E : Elim) : doneN E 0 = List.replicate E.n anil := by
  unfold doneN; apply List.ext_getElem (by simp); intro i h1 h2; simp
theorem doneN_full (E : Elim) : doneN E E.n = needT E := by
  unfold doneN needT
  refine List.map_congr_left fun q hq => ?_
  rw [if_pos (List.mem_range.1 hq)]
theorem doneN_get {E : Elim} {p : Nat} (hp : p < E.n) : (doneN E p).getD p .any = anil := by
  have := map_range_getD hp (fun q => if q < p then AV.sl 1 (needM E q) else anil)
  rw [if_neg (Nat.lt_irrefl p)] at this
  exact this
theorem doneN_set {E : Elim} {p : Nat} : (doneN E p).set p (.sl 1 (needM E p)) = doneN E (p + 1) := by
  unfold doneN
  rw [map_range_set]
  congr 1
  funext q
  by_cases e : q = p
  · rw [if_pos e, if_pos (by omega), e]
  · rw [if_neg e]
    by_cases e2 : q < p
    · rw [if_pos e2, if_pos (by omega)]
    · rw [if_neg e2, if_neg (by omega)]
def needK (E : Elim) (q m : Nat) : List AV := (List.range m).map fun j => .sl 1 (needL E q j)
theorem needK_len (E : Elim) (q m : Nat) : (needK E q m).length = m := by simp [needK]
theorem needK_succ (E : Elim) (q m : Nat) : needK E q (m + 1) = needK E q m ++ [.sl 1 (needL E q m)] := by unfold needK; rw [List.range_succ, List.map_append]; rfl
theorem need_row {ps : List Pr} (hv : validF ps = true) (ts : List Pd) {p m : Nat} (hp : p < ps.length) (hm : m ≤ ps[p].evs.length) : aInts (closeF ps (stC ps.length p m)) = .sl 1 (needL (elimOf ps ts) p m) := by
  obtain ⟨a1, a2⟩ := stC_ok (k := (m : Int)) hp (by omega) (by omega)
  obtain ⟨b1, _, _⟩ := closeF_ok hv a1 a2
  unfold aInts needL
  congr 1
  apply List.ext_getElem
  · rw [List.length_map, b1, List.length_map, List.length_range]; rfl
  · intro i h1 h2
    rw [List.getElem_map, List.getElem_map, List.getElem_range]
    show _ = ai (cAt _ _)
    rw [cAt_nat (by simpa using h1)]
theorem conj_needs (ps : List Pr) (hs : Sm ps) (hv : validF ps = true) (ts : List Pd) : PC Go.Proofs.Tryz.prog 69 [aTr ps] (.sl 1 (needT (elimOf ps ts))) := by
  have hl := hs.procs
  have hn : (elimOf ps ts).n = ps.length := rfl
  have hrow := fun p m hp hm => need_row hv ts (p := p) (m := m) hp hm
  have htop : ∀ p (hp : p < ps.length), (elimOf ps ts).top p = ps[p].evs.length := fun p hp => nev_get hp
  generalize elimOf ps ts = E at *
  refine PC.enter 56 [.tmp 2] [1, 5, 50] Go.Proofs.Tryz.func69 rfl rfl rfl rfl rfl (by simp) (AWp.of ?_); simp only [go_sem]
  repeat (first | ((with_reducible refine AWp.ofC ?_ ?_); (focus exact rfl); simp only [go_sem]) | ((with_reducible refine an ?_ ?_); focus exact Au))
  repeat ((with_reducible refine an ?_ ?_); focus exact As)
  intro b3
  repeat ((with_reducible refine an ?_ ?_); focus exact As)
  refine AWp.of ?_; simp only [go_sem]
  rw [show List.replicate ps.length anil = doneN E 0 by rw [doneN_zero, hn]]
  refine AWp.range' ps.length [] [1, 3, 15, 16] (fun p vs L => L = [(b3, .row 39 1 (doneN E p) ps.length)]) (by omega) rfl rfl rfl rfl ?_ ?_
  · rintro p vs L hp - rfl
    have hel := hs.evs _ (List.getElem_mem hp)
    have hgp := getD_map (f := aPr) hp
    have hdn := doneN_len E p
    have hds := doneN_set (E := E) (p := p)
    have hdg := doneN_get (E := E) (p := p) (by omega)
    simp only [go_sem]
    repeat (first | ((with_reducible refine AWp.ofC ?_ ?_); (focus exact rfl); simp only [go_sem, hgp]) | ((with_reducible refine an ?_ ?_); focus exact Au))
    intro b5 g5
    have n35 : ¬ b3 = b5 := by omega
    have n53 : ¬ b5 = b3 := by omega
    have hdp : p < (doneN E p).length := by omega
    have hset0 : doneN E p = (doneN E p).set p anil := by
      have e : (doneN E p)[p] = anil := by
        have := hdg
        rw [List.getD_eq_getElem?_getD, List.getElem?_eq_getElem hdp] at this
        exact this
      rw [← e, List.set_getElem_self]
    have hgv : ∀ v : AV, ((doneN E p).set p v).getD p .any = v := fun v => by
      rw [List.getD_eq_getElem?_getD, List.getElem?_set_self hdp]; rfl
    have hsl : ∀ v : AV, ((doneN E p).set p v).length = E.n := fun v => by rw [List.length_set, hdn]
    rw [hset0]
    generalize hD : doneN E p = D at *
    repeat (first | ((with_reducible refine AWp.ofC ?_ ?_); (focus exact rfl); simp only [go_sem]) | ((with_reducible refine an ?_ ?_); focus exact Au))
    refine AWp.postV ?_
    refine AWp.range' (ps[p].evs.length + 1) [] [1, 3, 4, 15, 16, 17, 25] (fun m vs L => ∃ v Lq, L = Lq ++ [(b3, .row 39 1 (D.set p v) ps.length)] ∧ AppSt 42 1 (needK E p m) v Lq ∧ ∀ x ∈ Lq, x.1 ≠ b3) (by omega) rfl rfl rfl ⟨anil, [], rfl, .nil, by simp⟩ ?_ ?_
    · rintro m vs L hm - ⟨v, Lq, rfl, hA, hq⟩
      have hyl := needK_len E p m
      have hnd := hrow p m hp (by omega)
      obtain ⟨a1, a2⟩ := stC_ok (k := (m : Int)) hp (by omega) (by omega)
      have hcl := cut_Close ps hs hv _ a1 a2
      rw [hnd] at hcl
      have hC : (stC ps.length p m).map ai = (List.replicate ps.length (ai 0)).set p (ai m) := by unfold stC; rw [List.map_set, List.map_replicate]
      have hg0 : (List.replicate ps.length (ai 0)).getD p .any = ai 0 := by rw [List.getD_eq_getElem?_getD, List.getElem?_replicate, if_pos hp]; rfl
      rw [needK_succ]
      have hfo := hA.fo
      generalize needK E p m = ys at *
      generalize needL E p m = xs at *
      rcases hA.inv with ⟨e1, rfl, rfl⟩ | ⟨bq, cap, rfl, rfl⟩
      · simp only [go_sem, List.nil_append]
        repeat ((with_reducible refine an ?_ ?_); focus exact As)
        refine AWp.of ?_; simp only [go_sem]
        repeat ((with_reducible refine an ?_ ?_); focus exact As)
        refine AWp.of ?_; simp only [go_sem]
        repeat ((with_reducible refine an ?_ ?_); focus exact As)
        intro b7 g7
        have n37 : ¬ b3 = b7 := by omega
        have n73 : ¬ b7 = b3 := by omega
        repeat ((with_reducible refine an ?_ ?_); focus exact As)
        refine AWp.of ?_; simp only [go_sem, n73, hg0, List.length_replicate]
        repeat ((with_reducible refine an ?_ ?_); focus exact As)
        rw [← hC]
        repeat (first | ((with_reducible refine AWp.ofC ?_ ?_); (focus exact rfl); simp only [go_sem]) | ((with_reducible refine an ?_ ?_); focus exact Au))
        have hvw : Vws [(b7, .row 3 1 ((stC ps.length p m).map ai) ps.length)] [aTr ps, .ls b7 1 0 ps.length ps.length] [aTr ps, aInts (stC ps.length p m)] := Vws.cons (.refl _) (Vws.cons (Vw.ofLs (if_pos rfl) (by rw [List.length_map, a1])) .nil)
        refine MVal.pass (Lf := [(b7, .row 3 1 ((stC ps.length p m).map ai) ps.length)]) (Li := []) (Lr := [(b3, .row 39 1 (D.set p anil) ps.length)]) (.refl _) hvw hcl.val ?_
        rintro r L1 ⟨rfl, rfl⟩
        refine ⟨_, .refl _, ?_⟩
        simp only [go_sem]
        repeat (first | ((with_reducible refine AWp.ofC ?_ ?_); (focus exact rfl); simp only [go_sem, hgv, hsl, hn]) | ((with_reducible refine an ?_ ?_); focus exact Au))
        repeat ((with_reducible refine an ?_ ?_); focus exact As)
        intro b' cap' g8 _
        have n3' : ¬ b3 = b' := by omega
        simp only [go_sem, n3', hgv, hsl, List.set_set]
        refine ⟨by omega, by omega, ?_⟩
        refine ⟨_, List.Sublist.refl _, .ls b' 1 0 1 cap', [(b', .row 42 1 [.sl 1 xs] cap')], rfl, ?_, ?_⟩
        · rw [e1]; exact .row _ _ _
        · intro y hy; simp only [List.mem_singleton] at hy; subst hy; exact fun e => n3' e.symm
      · simp only [go_sem, List.cons_append, List.nil_append]
        repeat ((with_reducible refine an ?_ ?_); focus exact As)
        refine AWp.of ?_; simp only [go_sem]
        repeat ((with_reducible refine an ?_ ?_); focus exact As)
        refine AWp.of ?_; simp only [go_sem]
        repeat ((with_reducible refine an ?_ ?_); focus exact As)
        intro b7 g7 g7'
        have n37 : ¬ b3 = b7 := by omega
        have n73 : ¬ b7 = b3 := by omega
        have nq3 : ¬ bq = b3 := hq (bq, .row 42 1 ys cap) (by simp)
        have n3q : ¬ b3 = bq := fun e => nq3 e.symm
        have n7q : ¬ b7 = bq := by omega
        have nq7 : ¬ bq = b7 := by omega
        repeat ((with_reducible refine an ?_ ?_); focus exact As)
        refine AWp.of ?_; simp only [go_sem, n73, n7q, hg0, List.length_replicate]
        repeat ((with_reducible refine an ?_ ?_); focus exact As)
        rw [← hC]
        repeat (first | ((with_reducible refine AWp.ofC ?_ ?_); (focus exact rfl); simp only [go_sem]) | ((with_reducible refine an ?_ ?_); focus exact Au))
        have hvw : Vws [(b7, .row 3 1 ((stC ps.length p m).map ai) ps.length)] [aTr ps, .ls b7 1 0 ps.length ps.length] [aTr ps, aInts (stC ps.length p m)] := Vws.cons (.refl _) (Vws.cons (Vw.ofLs (if_pos rfl) (by rw [List.length_map, a1])) .nil)
        refine MVal.pass (Lf := [(b7, .row 3 1 ((stC ps.length p m).map ai) ps.length)]) (Li := []) (Lr := [(bq, .row 42 1 ys cap), (b3, .row 39 1 (D.set p (.ls bq 1 0 ys.length cap)) ps.length)]) (.refl _) hvw hcl.val ?_
        rintro r L1 ⟨rfl, rfl⟩
        refine ⟨_, .refl _, ?_⟩
        simp only [go_sem]
        repeat (first | ((with_reducible refine AWp.ofC ?_ ?_); (focus exact rfl); simp only [go_sem, nq3, n3q, hgv, hsl, hn]) | ((with_reducible refine an ?_ ?_); focus exact Au))
        repeat ((with_reducible refine an ?_ ?_); focus exact As)
        intro b' cap' g8 _
        have n3' : ¬ b3 = b' := g8
        simp only [go_sem, n3', hgv, hsl, List.set_set]
        refine ⟨by omega, by omega, ?_⟩
        refine ⟨_, List.Sublist.refl _, .ls b' 1 0 (ys.length + 1) cap', [(b', .row 42 1 (ys ++ [.sl 1 xs]) cap')], rfl, ?_, ?_⟩
        · have := AppSt.row (t := 42) (k := 1) b' (ys ++ [.sl 1 xs]) cap'
          simpa using this
        · intro y hy; simp only [List.mem_singleton] at hy; subst hy; exact fun e => n3' e.symm
    · rintro vs L - ⟨v, Lq, rfl, hA, hq⟩
      have hkl := needK_len E p (ps[p].evs.length + 1)
      have hkm : needK E p (ps[p].evs.length + 1) = needM E p := by unfold needK needM; rw [htop p hp]
      rcases hA.inv with ⟨e1, rfl, rfl⟩ | ⟨bq, cap, rfl, rfl⟩
      · rw [e1] at hkl; simp at hkl
      · have nq3 : ¬ bq = b3 := hq (bq, .row 42 1 _ cap) (by simp; rfl)
        rw [hkm] at *
        simp only [go_sem, List.cons_append, List.nil_append]
        refine ⟨[_], [_], [(b3, .row 39 1 (doneN E (p + 1)) ps.length)], .refl _, ?_, _, List.Sublist.refl _, rfl⟩
        rw [← hds]
        have hvw : Vw [(bq, .row 42 1 (needM E p) cap)] (.ls bq 1 0 (needM E p).length cap) (.sl 1 (needM E p)) := Vw.ofLs (if_pos rfl) rfl
        exact .row (Vws.setV (Vws.refl _) hvw p) .nil
  · rintro vs L - rfl
    simp only [go_sem]
    repeat (first | ((with_reducible refine AWp.ofC ?_ ?_); (focus exact rfl); simp only [go_sem]) | ((with_reducible refine an ?_ ?_); focus exact Au))
    refine ret_view [true] ?_; simp only [go_sem]
    rw [← doneN_full, hn]
    exact Vw.ofLs (if_pos rfl) (by rw [doneN_len, hn])
end Go.AL
end
section
/- The board of the package conjunctive: one step of elimination, and all of them. No condition. -/
namespace Go.AL
open Go Go.RowKit
set_option maxRecDepth 4000
def aStp (s : Stp) : AV := .agg [ai s.1, ai s.2.1, ai s.2.2]
def stepR (E : Elim) (now : Nat → Nat) : AV := match stepP E now with
  | none => .tup [(.agg [ai 0, ai 0, ai 0]), ab false]
  | some p => .tup [.agg [ai p, ai (now p), ai ((goF E now p : Int) - 1)], ab true]
def stepN (E : Elim) (now : Nat → Nat) : Nat → Nat := match stepP E now with
  | none => now
  | some p => updN now p (goF E now p)
theorem board_viewL {E : Elim} {now : Nat → Nat} {bb bn : Nat} {L : AHeap} (h1 : lk L bb = some (.row 116 3 [.agg [.sl 1 (needT E), .sl 1 (okM E), .ls bn 1 0 E.n E.n]] 1)) (h2 : lk L bn = some (.row 3 1 (dnA E.n now) E.n)) (xs : List AV) :
    Vws L (.lp bb 3 0 0 :: xs) (aBoard E now :: xs) := by
  unfold aBoard
  exact Vws.cons (.lp h1 rfl (Vws.cons (.mkAgg (Vws.cons (.refl _) (Vws.cons (.refl _) (Vws.cons (Vw.ofLs h2 (dnA_length _ _).symm) .nil)))) .nil).2) (Vws.refl _)
theorem board_step (E : Elim) (hE : SmE E) (now : Nat → Nat) (hI : InE E now) (bb bn : Nat) (hb : ¬ bn = bb) : MCalls Go.Proofs.Tryz.prog 128 [.lp bb 3 0 0] (boardL E now bb bn) fun r L => r = stepR E now ∧ L = boardL E (stepN E now) bb bn := by
  have hn := hE.n
  have hb' : ¬ bb = bn := fun e => hb e.symm
  have hr : ∀ p, p < E.n → exB E now p (now p) = true → (∀ q, q < p → exB E now q (now q) = false) → stepR E now = .tup [.agg [ai p, ai (now p), ai ((goF E now p : Int) - 1)], ab true] ∧ stepN E now = updN now p (goF E now p) := fun p h1 h2 h3 => by
    have : stepP E now = some p := find_range_of h1 h2 h3
    unfold stepR stepN; rw [this]; exact ⟨rfl, rfl⟩
  have hr0 : (∀ q, q < E.n → exB E now q (now q) = false) → stepR E now = .tup [(.agg [ai 0, ai 0, ai 0]), ab false] ∧ stepN E now = now := fun h => by
    have : stepP E now = none := find_range_no h
    unfold stepR stepN; rw [this]; exact ⟨rfl, rfl⟩
  have hL : ∀ f, boardL E f bb bn = [(bb, .row 116 3 [.agg [.sl 1 (needT E), .sl 1 (okM E), .ls bn 1 0 E.n E.n]] 1), (bn, .row 3 1 (dnA E.n f) E.n)] := fun f => rfl
  generalize stepR E now = R at *
  generalize stepN E now = N' at *
  rw [hL]
  refine MCalls.enter' 57 [.cell 2 77, .tmp 3] [] Go.Proofs.Tryz.func128 rfl rfl rfl rfl rfl (by simp) (AWp.of ?_); simp only [go_sem]
  intro b2 g2 g2'
  have n1 : ¬ bb = b2 := by omega
  have n2 : ¬ bn = b2 := by omega
  have n3 : ¬ b2 = bb := by omega
  have n4 : ¬ b2 = bn := by omega
  repeat (first | ((with_reducible refine AWp.ofC ?_ ?_); (focus exact rfl); simp only [go_sem, hb', n1]) | ((with_reducible refine an ?_ ?_); focus exact Au))
  have hbv : ∀ (z : ABlk) (xs : List AV), Vws ((b2, z) :: [(bb, .row 116 3 [.agg [.sl 1 (needT E), .sl 1 (okM E), .ls bn 1 0 E.n E.n]] 1), (bn, .row 3 1 (dnA E.n now) E.n)]) (.lp bb 3 0 0 :: xs) (aBoard E now :: xs) := fun z xs => board_viewL (bn := bn) (by simp only [lk, n1, if_false, if_true]) (by simp only [lk, n2, hb, if_false, if_true]) xs
  refine AWp.range' E.n [] [0, 2, 10, 11] (fun p vs L => L = [(b2, .row 77 3 [(.agg [ai 0, ai 0, ai 0])] 1), (bb, .row 116 3 [.agg [.sl 1 (needT E), .sl 1 (okM E), .ls bn 1 0 E.n E.n]] 1), (bn, .row 3 1 (dnA E.n now) E.n)] ∧ ∀ q, q < p → exB E now q (now q) = false) (by omega) rfl rfl rfl ⟨rfl, fun q hq => by omega⟩ ?_ ?_
  · rintro p vs L hp - ⟨rfl, hJ⟩
    have hgn := dnA_get hp now
    have hIp := hI p hp
    have hex := board_excluded E hE now hI p (now p) hp hIp
    have htp := hE.top p
    simp only [go_sem]
    repeat ((with_reducible refine an ?_ ?_); focus exact As)
    refine AWp.of ?_; simp only [go_sem, hgn, hb, n2, dnA_length]
    repeat (first | ((with_reducible refine AWp.ofC ?_ ?_); (focus exact rfl); simp only [go_sem]) | ((with_reducible refine an ?_ ?_); focus exact Au))
    refine (PC.view (hbv _ _) hex (Own.v _) ?_).val
    simp only [go_sem]
    repeat (first | ((with_reducible refine AWp.ofC ?_ ?_); (focus exact rfl); simp only [go_sem]) | ((with_reducible refine an ?_ ?_); focus exact Au))
    refine ⟨fun h1 => ?_, fun h1 => ?_⟩
    · refine ⟨_, List.Sublist.refl _, rfl, fun q hq => ?_⟩
      by_cases e : q = p
      · subst e; exact h1
      · exact hJ q (by omega)
    · obtain ⟨e1, e2⟩ := hr p hp h1 hJ
      have hgo : goF E now p = nextK (exB E now p) (E.top p) (now p + 1) := nextK_hit hIp h1
      have hgk := okM_get hp
      repeat (first | ((with_reducible refine AWp.ofC ?_ ?_); (focus exact rfl); simp only [go_sem]) | ((with_reducible refine an ?_ ?_); focus exact Au))
      refine AWp.seq (AWp.block (AWp.loopN [6] [0, 2, 4, 5] (fun m vs L => L = [(b2, .row 77 3 [(.agg [ai 0, ai 0, ai 0])] 1), (bb, .row 116 3 [.agg [.sl 1 (needT E), .sl 1 (okM E), .ls bn 1 0 E.n E.n]] 1), (bn, .row 3 1 (dnA E.n now) E.n)] ∧ ∃ k : Nat, m = E.top p - k ∧ now p ≤ k ∧ k ≤ E.top p ∧ vs = [ai k] ∧ goF E now p = nextK (exB E now p) (E.top p) (k + 1)) (E.top p - now p) ?_ ?_))
      · exact ⟨rfl, now p, rfl, Nat.le_refl _, hIp, rfl, hgo⟩
      rintro m vs L - ⟨rfl, k, rfl, h2, h3, rfl, h4⟩
      simp only [go_sem]
      repeat ((with_reducible refine an ?_ ?_); focus exact As)
      refine AWp.of ?_; simp only [go_sem, hb', n1, hgk, okM_len, okL_len]
      repeat ((with_reducible refine an ?_ ?_); focus exact As)
      refine GCall.use (ab (exB E now p (k + 1))) ?_ ?_
      · intro g
        have hk1 : k + 1 ≤ E.top p := by omega
        exact ⟨At, (PC.view (hbv _ _) (board_excluded E hE now hI p (k + 1) hp hk1) (Own.v _) ⟨rfl, rfl⟩).val⟩
      simp only [go_sem]
      repeat ((with_reducible refine an ?_ ?_); focus exact As)
      repeat (first | ((with_reducible refine AWp.ofC ?_ ?_); (focus exact rfl); simp only [go_sem]) | ((with_reducible refine an ?_ ?_); focus exact Au))
      refine ⟨fun h5 h6 => ?_, fun h5 => ?_⟩
      · repeat (first | ((with_reducible refine AWp.ofC ?_ ?_); (focus exact rfl); simp only [go_sem]) | ((with_reducible refine an ?_ ?_); focus exact Au))
        exact ⟨_, List.Sublist.refl _, _, by omega, rfl, k + 1, rfl, by omega, by omega, by rw [show ((k + 1 : Nat) : Int) = (k : Int) + 1 by omega], by rw [h4, nextK_hit (by omega) h6]⟩
      · have hk : goF E now p = k + 1 := by
          rw [h4, nextK_stop]
          rintro ⟨h7, h8⟩
          have := h5 (by omega)
          rw [h8] at this; cases this
        have hgn2 : ((dnA E.n now).set p (ai ((k : Int) + 1))) = dnA E.n (updN now p (goF E now p)) := dnA_set (by rw [updN_self, hk]; omega) fun q hq => updN_ne hq
        repeat (first | ((with_reducible refine AWp.ofC ?_ ?_); (focus exact rfl); simp only [go_sem, hb, hb', n1, n2, n3, n4, dnA_length, hgn]) | ((with_reducible refine an ?_ ?_); focus exact Au))
        rw [e1, e2]
        refine ret_sub [(bb, .row 116 3 [.agg [.sl 1 (needT E), .sl 1 (okM E), .ls bn 1 0 E.n E.n]] 1), (bn, .row 3 1 ((dnA E.n now).set p (ai ((k : Int) + 1))) E.n)] (.cons _ (List.Sublist.refl _)) ?_
        simp only [go_sem]
        refine ⟨?_, ?_⟩
        · rw [hk, show (((k + 1 : Nat) : Int) - 1) = k by omega]
        · rw [hL, ← hgn2]
  · rintro vs L - ⟨rfl, hJ⟩
    obtain ⟨e1, e2⟩ := hr0 hJ
    simp only [go_sem]
    repeat (first | ((with_reducible refine AWp.ofC ?_ ?_); (focus exact rfl); simp only [go_sem, n3, n4]) | ((with_reducible refine an ?_ ?_); focus exact Au))
    rw [e1, e2]
    refine ret_sub [(bb, .row 116 3 [.agg [.sl 1 (needT E), .sl 1 (okM E), .ls bn 1 0 E.n E.n]] 1), (bn, .row 3 1 (dnA E.n now) E.n)] (.cons _ (List.Sublist.refl _)) ?_
    simp only [go_sem]
    rw [hL]
theorem inE_small {E : Elim} (hE : SmE E) {now : Nat → Nat} (hI : InE E now) : ∀ q, q < E.n → now q ≤ 1000001 := fun q hq => by
  have := hI q hq
  have := hE.top q
  omega
theorem lostB_false {E : Elim} {now : Nat → Nat} (hI : InE E now) : lostB E now = false := List.any_eq_false.2 fun q hq => by
  have := hI q (List.mem_range.1 hq)
  simpa using this
theorem lostB_true {E : Elim} {now : Nat → Nat} {q : Nat} (hq : q < E.n) (h : E.top q < now q) : lostB E now = true := List.any_eq_true.2 ⟨q, List.mem_range.2 hq, decide_eq_true h⟩
theorem step_lost {E : Elim} {now : Nat → Nat} (hI : InE E now) {p : Nat} (h : stepP E now = some p) (hl : E.top p < goF E now p) : lostB E (updN now p (goF E now p)) = true ∧ ∀ q, q < E.n → E.top q ≤ 1000000 → updN now p (goF E now p) q ≤ 1000001 := by
  obtain ⟨h1, _, _, _, h5, _, _⟩ := step_inv hI h
  refine ⟨lostB_true h1 (by rw [updN_self]; exact hl), fun q hq ht => ?_⟩
  by_cases e : q = p
  · subst e; rw [updN_self]; omega
  · rw [updN_ne e]; have := hI q hq; omega
theorem board_steps (E : Elim) (hE : SmE E) (now fin : Nat → Nat) (hI : InE E now) (st : List Stp) (l : Bool) (hR : RunR E now st fin l) (bb bn : Nat) (hb : ¬ bn = bb) :
    MCalls Go.Proofs.Tryz.prog 70 [.lp bb 3 0 0] (boardL E now bb bn) fun r L => ∃ Lq, AppSt 77 3 (st.map aStp) r Lq ∧ L = Lq ++ boardL E fin bb bn ∧ ∀ x ∈ Lq, x.1 ≠ bb ∧ x.1 ≠ bn := by
  have hb' : ¬ bb = bn := fun e => hb e.symm
  have hL : ∀ f, boardL E f bb bn = [(bb, .row 116 3 [.agg [.sl 1 (needT E), .sl 1 (okM E), .ls bn 1 0 E.n E.n]] 1), (bn, .row 3 1 (dnA E.n f) E.n)] := fun f => rfl
  have hvw : ∀ (f : Nat → Nat) (Lq : AHeap), (∀ x ∈ Lq, x.1 ≠ bb ∧ x.1 ≠ bn) → Vws (Lq ++ boardL E f bb bn) [.lp bb 3 0 0] [aBoard E f] := fun f Lq hq => by
    have hlk : ∀ (b : Nat), (∀ x ∈ Lq, x.1 ≠ b) → lk (Lq ++ boardL E f bb bn) b = lk (boardL E f bb bn) b := fun b => by
      clear hq
      induction Lq with
      | nil => intro _; rfl
      | cons y Lq ih =>
        intro h
        obtain ⟨yb, yx⟩ := y
        have h0 : ¬ b = yb := fun e => h (yb, yx) (by simp) e.symm
        show (if b = yb then _ else _) = _
        rw [if_neg h0]
        exact ih fun x hx => h x (List.mem_cons_of_mem _ hx)
    refine board_viewL (bn := bn) ?_ ?_ []
    · rw [hlk bb fun x hx => (hq x hx).1, hL]; simp only [lk, if_true]
    · rw [hlk bn fun x hx => (hq x hx).2, hL]; simp only [lk, hb, if_false, if_true]
  rw [hL]
  refine MCalls.enter' 21 [.tmp 2] [4, 18] Go.Proofs.Tryz.func70 rfl rfl rfl rfl rfl (by simp) (AWp.of ?_); simp only [go_sem]
  repeat (first | ((with_reducible refine AWp.ofC ?_ ?_); (focus exact rfl); simp only [go_sem]) | ((with_reducible refine an ?_ ?_); focus exact Au))
  rw [← hL]
  refine AWp.seq (AWp.block (AWp.loopN [3] [0] (fun m vs L => ∃ (f : Nat → Nat) (acc st' : List Stp) (v : AV) (Lq : AHeap), vs = [v] ∧ L = Lq ++ boardL E f bb bn ∧ AppSt 77 3 (acc.map aStp) v Lq ∧ (∀ x ∈ Lq, x.1 ≠ bb ∧ x.1 ≠ bn) ∧ acc ++ st' = st ∧ (∀ q, q < E.n → f q ≤ 1000001) ∧
    ((InE E f ∧ RunR E f st' fin l ∧ m = roomE E f + 1 ∧ acc.length + roomE E f ≤ roomE E now) ∨ (lostB E f = true ∧ f = fin ∧ st' = [] ∧ m = 0))) (roomE E now + 1) ?_ ?_))
  · exact ⟨now, [], st, anil, [], rfl, rfl, .nil, by simp, rfl, inE_small hE hI, .inl ⟨hI, hR, rfl, by simp⟩⟩
  · rintro m vs L - ⟨f, acc, st', v, Lq, rfl, rfl, hA, hq, hacc, hsm, hst⟩
    have hlo := board_lost E hE f hsm
    have hvq := hvw f Lq hq
    have hroom : roomE E now ≤ E.n * 1000001 := totS_le _ fun q hq => by have := hE.top q; omega
    have hEn := hE.n
    rcases hst with ⟨hIf, hRf, rfl, hrf⟩ | ⟨hlt, rfl, rfl, rfl⟩
    · rw [lostB_false hIf] at hlo
      have hstep := board_step E hE f hIf bb bn hb
      simp only [go_sem]
      repeat ((with_reducible refine an ?_ ?_); focus exact As)
      refine AWp.of ?_; simp only [go_sem]
      refine (PC.view hvq hlo (Own.v _) ?_).val
      simp only [go_sem]
      repeat (first | ((with_reducible refine AWp.ofC ?_ ?_); (focus exact rfl); simp only [go_sem]) | ((with_reducible refine an ?_ ?_); focus exact Au))
      refine MVal.pass (Lf := []) (Li := boardL E f bb bn) (Lr := Lq) (by simpa using List.perm_append_comm) (Vws.refl _) hstep.val ?_
      rintro r L1 ⟨rfl, rfl⟩
      refine ⟨Lq ++ boardL E (stepN E f) bb bn, List.perm_append_comm, ?_⟩
      have hfo := hA.fo
      cases hRf with
      | stop h =>
        have e1 : stepR E fin = .tup [.agg [ai 0, ai 0, ai 0], ab false] := by unfold stepR; rw [h]
        have e2 : stepN E fin = fin := by unfold stepN; rw [h]
        rw [List.append_nil] at hacc
        subst hacc
        rw [e1, e2]
        simp only [go_sem]
        intro b4 g4
        repeat (first | ((with_reducible refine AWp.ofC ?_ ?_); (focus exact rfl); simp only [go_sem, hfo]) | ((with_reducible refine an ?_ ?_); focus exact Au))
        refine ret_own ?_
        simp only [go_sem]
        exact ⟨Lq, hA, rfl, hq⟩
      | @lost _ p h hl =>
        have hlt := (step_inv hIf h).2.2.2.1
        have e1 : stepR E f = .tup [.agg [ai p, ai (f p), ai ((goF E f p - 1 : Nat) : Int)], ab true] := by
          unfold stepR; rw [h]
          dsimp only
          rw [show ((goF E f p - 1 : Nat) : Int) = (goF E f p : Int) - 1 by omega]
        have e2 : stepN E f = updN f p (goF E f p) := by unfold stepN; rw [h]
        rw [e1, e2]
        have hap : ∀ (b' cap' : Nat), AppSt 77 3 ((acc ++ [(p, f p, goF E f p - 1)]).map aStp) (.ls b' 3 0 (acc.length + 1) cap') [(b', .row 77 3 (acc.map aStp ++ [.agg [ai p, ai (f p), ai ((goF E f p - 1 : Nat) : Int)]]) cap')] := fun b' cap' => by
          have := AppSt.row (t := 77) (k := 3) b' ((acc ++ [(p, f p, goF E f p - 1)]).map aStp) cap'
          simpa [aStp] using this
        have hacl : (acc.map aStp).length = acc.length := List.length_map _
        obtain ⟨k1, k2⟩ := step_lost hIf h hl
        have hsm' : ∀ q, q < E.n → updN f p (goF E f p) q ≤ 1000001 := fun q hq => k2 q hq (hE.top q)
        obtain ⟨m', hm', hdj⟩ : ∃ m', m' < roomE E f + 1 ∧ ((InE E (updN f p (goF E f p)) ∧ RunR E (updN f p (goF E f p)) [] (updN f p (goF E f p)) true ∧ m' = roomE E (updN f p (goF E f p)) + 1 ∧ (acc ++ [(p, f p, goF E f p - 1)]).length + roomE E (updN f p (goF E f p)) ≤ roomE E now) ∨ (lostB E (updN f p (goF E f p)) = true ∧ updN f p (goF E f p) = updN f p (goF E f p) ∧ ([] : List Stp) = [] ∧ m' = 0)) := ⟨0, by omega, .inr ⟨k1, rfl, rfl, rfl⟩⟩
        have hacc' : (acc ++ [(p, f p, goF E f p - 1)]) ++ [] = st := by rw [List.append_assoc]; exact hacc
        generalize hF : updN f p (goF E f p) = F at *
        generalize hY : acc.map aStp = ys at *
        rcases hA.inv with ⟨e3, rfl, rfl⟩ | ⟨bq, cap, rfl, rfl⟩
        · simp only [go_sem, List.nil_append]
          intro b4 g4
          repeat (first | ((with_reducible refine AWp.ofC ?_ ?_); (focus exact rfl); simp only [go_sem]) | ((with_reducible refine an ?_ ?_); focus exact Au))
          intro b' cap' g8 _
          have n1 : ¬ b' = bb ∧ ¬ b' = bn := by simp only [boardL, fresh] at g8; omega
          rw [e3] at hacl hap
          have h0 : acc.length = 0 := by simpa using hacl.symm
          have hap := hap b' cap'
          rw [h0] at hap
          exact ⟨_, List.Sublist.refl _, m', hm', F, _, [], _, [(b', _)], rfl, rfl, hap, fun x hx => by simp only [List.mem_singleton] at hx; subst hx; exact n1, hacc', hsm', hdj⟩
        · simp only [go_sem, List.cons_append, List.nil_append]
          intro b4 g4 g4'
          repeat (first | ((with_reducible refine AWp.ofC ?_ ?_); (focus exact rfl); simp only [go_sem]) | ((with_reducible refine an ?_ ?_); focus exact Au))
          intro b' cap' g8 _
          have n1 : ¬ b' = bb ∧ ¬ b' = bn := by simp only [boardL, apart] at g8; omega
          have hap := hap b' cap'
          rw [← hacl] at hap
          exact ⟨_, List.Sublist.refl _, m', hm', F, _, [], _, [(b', _)], rfl, rfl, hap, fun x hx => by simp only [List.mem_singleton] at hx; subst hx; exact n1, hacc', hsm', hdj⟩
      | @go _ _ p st'' _ h hl hr =>
        have hlt := (step_inv hIf h).2.2.2.1
        have e1 : stepR E f = .tup [.agg [ai p, ai (f p), ai ((goF E f p - 1 : Nat) : Int)], ab true] := by
          unfold stepR; rw [h]
          dsimp only
          rw [show ((goF E f p - 1 : Nat) : Int) = (goF E f p : Int) - 1 by omega]
        have e2 : stepN E f = updN f p (goF E f p) := by unfold stepN; rw [h]
        rw [e1, e2]
        have hap : ∀ (b' cap' : Nat), AppSt 77 3 ((acc ++ [(p, f p, goF E f p - 1)]).map aStp) (.ls b' 3 0 (acc.length + 1) cap') [(b', .row 77 3 (acc.map aStp ++ [.agg [ai p, ai (f p), ai ((goF E f p - 1 : Nat) : Int)]]) cap')] := fun b' cap' => by
          have := AppSt.row (t := 77) (k := 3) b' ((acc ++ [(p, f p, goF E f p - 1)]).map aStp) cap'
          simpa [aStp] using this
        have hacl : (acc.map aStp).length = acc.length := List.length_map _
        have hI' := inE_step hIf hl
        have hsm' : ∀ q, q < E.n → updN f p (goF E f p) q ≤ 1000001 := inE_small hE hI'
        have hrm := (step_inv hIf h).2.2.2.2.2.2
        obtain ⟨m', hm', hdj⟩ : ∃ m', m' < roomE E f + 1 ∧ ((InE E (updN f p (goF E f p)) ∧ RunR E (updN f p (goF E f p)) st'' fin l ∧ m' = roomE E (updN f p (goF E f p)) + 1 ∧ (acc ++ [(p, f p, goF E f p - 1)]).length + roomE E (updN f p (goF E f p)) ≤ roomE E now) ∨ (lostB E (updN f p (goF E f p)) = true ∧ updN f p (goF E f p) = fin ∧ st'' = [] ∧ m' = 0)) := ⟨_, by omega, .inl ⟨hI', hr, rfl, by rw [List.length_append, List.length_singleton]; omega⟩⟩
        have hacc' : (acc ++ [(p, f p, goF E f p - 1)]) ++ st'' = st := by rw [List.append_assoc]; exact hacc
        generalize hF : updN f p (goF E f p) = F at *
        generalize hY : acc.map aStp = ys at *
        rcases hA.inv with ⟨e3, rfl, rfl⟩ | ⟨bq, cap, rfl, rfl⟩
        · simp only [go_sem, List.nil_append]
          intro b4 g4
          repeat (first | ((with_reducible refine AWp.ofC ?_ ?_); (focus exact rfl); simp only [go_sem]) | ((with_reducible refine an ?_ ?_); focus exact Au))
          intro b' cap' g8 _
          have n1 : ¬ b' = bb ∧ ¬ b' = bn := by simp only [boardL, fresh] at g8; omega
          rw [e3] at hacl hap
          have h0 : acc.length = 0 := by simpa using hacl.symm
          have hap := hap b' cap'
          rw [h0] at hap
          exact ⟨_, List.Sublist.refl _, m', hm', F, _, st'', _, [(b', _)], rfl, rfl, hap, fun x hx => by simp only [List.mem_singleton] at hx; subst hx; exact n1, hacc', hsm', hdj⟩
        · simp only [go_sem, List.cons_append, List.nil_append]
          intro b4 g4 g4'
          repeat (first | ((with_reducible refine AWp.ofC ?_ ?_); (focus exact rfl); simp only [go_sem]) | ((with_reducible refine an ?_ ?_); focus exact Au))
          intro b' cap' g8 _
          have n1 : ¬ b' = bb ∧ ¬ b' = bn := by simp only [boardL, apart] at g8; omega
          have hap := hap b' cap'
          rw [← hacl] at hap
          exact ⟨_, List.Sublist.refl _, m', hm', F, _, st'', _, [(b', _)], rfl, rfl, hap, fun x hx => by simp only [List.mem_singleton] at hx; subst hx; exact n1, hacc', hsm', hdj⟩
    · rw [hlt] at hlo
      have hfo := hA.fo
      rw [List.append_nil] at hacc
      subst hacc
      simp only [go_sem]
      repeat ((with_reducible refine an ?_ ?_); focus exact As)
      refine AWp.of ?_; simp only [go_sem]
      refine (PC.view hvq hlo (Own.v _) ?_).val
      simp only [go_sem]
      repeat (first | ((with_reducible refine AWp.ofC ?_ ?_); (focus exact rfl); simp only [go_sem, hfo]) | ((with_reducible refine an ?_ ?_); focus exact Au))
      refine ret_own ?_
      simp only [go_sem]
      exact ⟨Lq, hA, rfl, hq⟩
end Go.AL
end
section
/- The board of a trace with local predicates is made: the package conjunctive. No condition. -/
namespace Go.AL
open Go Go.RowKit
set_option maxRecDepth 4000
def lclAt (z : Int → Pd → Int) (ts : List Pd) (p : Nat) : Int := match ts[p]? with | some t => z p t | none => 0
/-- The error of local predicates: the first one's that has one. -/
noncomputable def conF (ps : List Pr) (ts : List Pd) : Int :=
  if validF ps = true ∧ ts.length = ps.length then match (List.range ts.length).find? (fun p => decide (lclAt (fun p t => lclF ps p 0 t) ts p ≠ 0)) with | some p => lclAt (fun p t => lclF ps p 0 t) ts p | none => 0 else 1
theorem conF_bad {ps : List Pr} {ts : List Pd} (h : ¬ (validF ps = true ∧ ts.length = ps.length)) : conF ps ts = 1 := by unfold conF; rw [if_neg h]
theorem conF_hit {ps : List Pr} {ts : List Pd} (h : validF ps = true ∧ ts.length = ps.length) {p : Nat} (hp : p < ts.length) (h0 : ∀ q (hq : q < ts.length), q < p → lclF ps q 0 ts[q] = 0) (h1 : lclF ps p 0 ts[p] ≠ 0) : conF ps ts = lclF ps p 0 ts[p] := by
  have e : ∀ q (hq : q < ts.length), lclAt (fun p t => lclF ps p 0 t) ts q = lclF ps q 0 ts[q] := fun q hq => by unfold lclAt; rw [List.getElem?_eq_getElem hq]
  unfold conF
  rw [if_pos h, find_range_of hp (by rw [e p hp]; exact decide_eq_true h1) fun q hq => by rw [e q (by omega), h0 q (by omega) hq]; rfl]
  exact e p hp
theorem conF_zero {ps : List Pr} {ts : List Pd} (h : validF ps = true ∧ ts.length = ps.length) (h0 : ∀ q (hq : q < ts.length), lclF ps q 0 ts[q] = 0) : conF ps ts = 0 := by
  have e : ∀ q (hq : q < ts.length), lclAt (fun p t => lclF ps p 0 t) ts q = lclF ps q 0 ts[q] := fun q hq => by unfold lclAt; rw [List.getElem?_eq_getElem hq]
  unfold conF
  rw [if_pos h, find_range_no fun q hq => by rw [e q hq, h0 q hq]; rfl]
end Go.AL
end
