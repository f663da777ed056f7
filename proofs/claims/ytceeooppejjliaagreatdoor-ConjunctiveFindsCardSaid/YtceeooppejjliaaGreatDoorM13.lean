/- Texts of this claim's proof: WXp, WXr, AlRng, WBig, WPw3, WHu, WXl. No condition. -/
import Derived.Test.YtceeooppejjliaaGreatDoorM12
import Derived.Test.YtceeooppejjliaaGreatDoorM3
import Derived.Test.YtceeooppejjliaaGreatDoorM6
import Derived.Test.YtceeooppejjliaaGreatDoorM7
section
/- The stretches of states: the package conjunctive and the reference of layer 37. No condition. -/
namespace Go.AL
open Go Go.RowKit
set_option maxRecDepth 4000
noncomputable def spansF (ps : List Pr) (p : Nat) (t : Pd) : List Stp := spL (fun k : Nat => lclT ps p t k) p (nev ps p + 1)
noncomputable def aSpansR (ps : List Pr) (p : Int) (t : Pd) : AV := if lclF ps p 0 t = 0 then .tup [.sl 3 ((spansF ps p.toNat t).map aStp), ai 0] else .tup [.sl 3 [], ai (lclF ps p 0 t)]
theorem last_get (d : List Stp) (x : Stp) : ((d ++ [x]).map aStp).getD (((d ++ [x]).map aStp).length - 1) .any = aStp x := by
  rw [List.length_map, List.getD_eq_getElem?_getD, List.getElem?_map]
  simp
theorem last_set (d : List Stp) (x y : Stp) : ((d ++ [x]).map aStp).set (((d ++ [x]).map aStp).length - 1) (aStp y) = (d ++ [y]).map aStp := by
  rw [List.length_map, List.map_append, List.map_append]
  simp
theorem conj_Spans (ps : List Pr) (hs : Sm ps) (p : Int) (t : Pd) (hz : szF t ≤ 1000000) : PC Go.Proofs.Tryz.prog 14 [aTr ps, ai p, aPd t] (aSpansR ps p t) := by
  have h1 := evaluate_Truths ps hs p t hz
  have hl := hs.procs
  unfold aTruths at h1
  unfold aSpansR
  by_cases he : lclF ps p 0 t = 0
  · rw [if_pos he] at h1 ⊢
    have hp0 : 0 ≤ p := by
      unfold lclF at he
      split at he
      · rename_i h; exact absurd he h
      · split at he
        · cases he
        · rename_i h; omega
    obtain ⟨i, rfl⟩ : ∃ i : Nat, p = i := ⟨p.toNat, by omega⟩
    rw [Int.toNat_natCast] at h1 ⊢
    obtain ⟨_, hp, _, _, _, _⟩ := lcl_ok he
    have hel := hs.evs _ (List.getElem_mem hp)
    unfold spansF
    rw [nev_get hp]
    rw [truthsF_nat hp, List.map_map] at h1
    obtain ⟨b, hbd⟩ : ∃ b : Nat → Bool, b = fun k : Nat => lclT ps i t k := ⟨_, rfl⟩
    have hT : ∀ k, k < ps[i].evs.length + 1 → ((List.range (ps[i].evs.length + 1)).map (ab ∘ fun (k : Nat) => lclT ps i t k)).getD k .any = ab (b k) := fun k hk => by rw [hbd]; exact map_range_getD hk _
    have hTl : ((List.range (ps[i].evs.length + 1)).map (ab ∘ fun (k : Nat) => lclT ps i t k)).length = ps[i].evs.length + 1 := by simp
    generalize (List.range (ps[i].evs.length + 1)).map (ab ∘ fun (k : Nat) => lclT ps i t k) = T at *
    rw [← hbd]
    clear hbd
    obtain ⟨k0, n, pp, q, s, l⟩ := t
    simp only [aPd_mk] at *
    refine PC.enter 59 [.tmp 6, .tmp 7] [3, 5, 35] Go.Proofs.Tryz.func14 rfl rfl rfl rfl rfl (by simp) (AWp.of ?_); simp only [go_sem]
    repeat (first | ((with_reducible refine AWp.ofC ?_ ?_); (focus exact rfl); simp only [go_sem]) | ((with_reducible refine an ?_ ?_); focus exact Au))
    repeat ((with_reducible refine an ?_ ?_); focus exact As)
    refine (h1).val.use ?_; simp only [go_sem]
    repeat (first | ((with_reducible refine AWp.ofC ?_ ?_); (focus exact rfl); simp only [go_sem]) | ((with_reducible refine an ?_ ?_); focus exact Au))
    refine AWp.range' T.length [10] [1, 8, 23, 24] (fun k vs L => ∃ v, vs = [v] ∧ AppSt 77 3 ((spL b i k).map aStp) v L) (by omega) rfl rfl rfl ⟨anil, rfl, .nil⟩ ?_ ?_
    · rintro k vs L' hk - ⟨v, rfl, hA⟩
      have g0 := hT k (by omega)
      have g1 := hT (k - 1) (by omega)
      have gk : ((k : Int) - 1).toNat = k - 1 := by omega
      have hfo := hA.fo
      cases hbk : b k with
      | false =>
        rw [hbk] at g0
        rw [spL_no hbk]
        simp only [go_sem]
        repeat (first | ((with_reducible refine AWp.ofC ?_ ?_); (focus exact rfl); simp only [go_sem, g0, hTl]) | ((with_reducible refine an ?_ ?_); focus exact Au))
        exact ⟨_, List.Sublist.refl _, v, rfl, hA⟩
      | true =>
        rw [hbk] at g0
        simp only [go_sem]
        repeat (first | ((with_reducible refine AWp.ofC ?_ ?_); (focus exact rfl); simp only [go_sem, g0, g1, gk, hTl, hfo]) | ((with_reducible refine an ?_ ?_); focus exact Au))
        refine ⟨fun h2 h3 => ?_, fun h2 => ?_⟩
        · obtain ⟨d, f, e1, e2⟩ := spL_on (b := b) (p := i) (k := k) hbk (by rw [decide_eq_true (by omega), h3]; rfl)
          rw [e1] at hA
          rw [e2]
          have gl : ((d ++ [(i, f, k - 1)]).map aStp).getD (((d ++ [(i, f, k - 1)]).map aStp).length - 1) .any = .agg [ai i, ai f, ai ((k - 1 : Nat) : Int)] := last_get d (i, f, k - 1)
          have gs : ((d ++ [(i, f, k - 1)]).map aStp).set (((d ++ [(i, f, k - 1)]).map aStp).length - 1) (.agg [ai i, ai f, ai k]) = (d ++ [(i, f, k)]).map aStp := last_set d (i, f, k - 1) (i, f, k)
          have hyl : 1 ≤ ((d ++ [(i, f, k - 1)]).map aStp).length := by simp
          have hyk := spL_len (b := b) (p := i) k
          rw [e1, ← List.length_map (f := aStp)] at hyk
          have hll : ((d ++ [(i, f, k)]).map aStp).length = ((d ++ [(i, f, k - 1)]).map aStp).length := by simp
          generalize ((d ++ [(i, f, k - 1)]).map aStp) = ys at *
          generalize ((d ++ [(i, f, k)]).map aStp) = zs at *
          have gn : ((ys.length : Int) - 1).toNat = ys.length - 1 := by omega
          rcases hA.inv with ⟨e3, _, _⟩ | ⟨bq, cap, rfl, rfl⟩
          · rw [e3] at hyl; simp at hyl
          · repeat (first | ((with_reducible refine AWp.ofC ?_ ?_); (focus exact rfl); simp only [go_sem]) | ((with_reducible refine an ?_ ?_); focus exact Au))
            simp only [go_sem, gl, gn, gs]
            repeat ((with_reducible refine an ?_ ?_); focus exact As)
            refine ⟨_, List.Sublist.refl _, _, rfl, ?_⟩
            rw [← hll]
            exact .row _ _ _
        · have e0 : (decide (0 < k) && b (k - 1)) = false := by
            by_cases h3 : 0 < k
            · rw [decide_eq_true h3, Bool.true_and]; simpa using h2 (by omega)
            · rw [decide_eq_false h3]; rfl
          rw [spL_new hbk e0, List.map_append]
          have ea : [(i, k, k)].map aStp = [.agg [ai i, ai k, ai k]] := rfl
          rw [ea]
          have hyl := spL_len (b := b) (p := i) k
          rw [← List.length_map (f := aStp)] at hyl
          generalize (spL b i k).map aStp = ys at *
          rcases hA.inv with ⟨e3, rfl, rfl⟩ | ⟨bq, cap, rfl, rfl⟩
          · subst e3
            simp only [go_sem]
            repeat ((with_reducible refine an ?_ ?_); focus exact As)
            intro b' cap' _
            refine ⟨_, List.Sublist.refl _, _, rfl, ?_⟩
            exact .row _ _ _
          · simp only [go_sem]
            repeat ((with_reducible refine an ?_ ?_); focus exact As)
            intro b' cap' _
            refine ⟨_, List.Sublist.refl _, _, rfl, ?_⟩
            have := AppSt.row (t := 77) (k := 3) b' (ys ++ [.agg [ai i, ai k, ai k]]) cap'
            simpa using this
    · rintro vs L' - ⟨v, rfl, hA⟩
      rw [hTl] at hA
      have hfo := hA.fo
      rcases hA.inv with ⟨e3, rfl, rfl⟩ | ⟨bq, cap, rfl, rfl⟩
      · simp only [go_sem]
        repeat (first | ((with_reducible refine AWp.ofC ?_ ?_); (focus exact rfl); simp only [go_sem]) | ((with_reducible refine an ?_ ?_); focus exact Au))
        refine ret_view [] ?_; simp only [go_sem]
        rw [e3]
        exact .mkTup (Vws.cons (.nil 3) (Vws.refl _))
      · simp only [go_sem]
        repeat (first | ((with_reducible refine AWp.ofC ?_ ?_); (focus exact rfl); simp only [go_sem]) | ((with_reducible refine an ?_ ?_); focus exact Au))
        refine ret_view [true] ?_; simp only [go_sem]
        exact .mkTup (Vws.cons (Vw.ofLs (if_pos rfl) (List.length_map _).symm) (Vws.refl _))
  · rw [if_neg he] at h1 ⊢
    generalize lclF ps p 0 t = e at *
    obtain ⟨k0, n, pp, q, s, l⟩ := t
    simp only [aPd_mk] at *
    refine PC.enter 59 [.tmp 6, .tmp 7] [3, 5, 35] Go.Proofs.Tryz.func14 rfl rfl rfl rfl rfl (by simp) (AWp.of ?_); simp only [go_sem]
    repeat (first | ((with_reducible refine AWp.ofC ?_ ?_); (focus exact rfl); simp only [go_sem]) | ((with_reducible refine an ?_ ?_); focus exact Au))
    repeat ((with_reducible refine an ?_ ?_); focus exact As)
    refine (h1).val.use ?_; simp only [go_sem]
    repeat (first | ((with_reducible refine AWp.ofC ?_ ?_); (focus exact rfl); simp only [go_sem, he]) | ((with_reducible refine an ?_ ?_); focus exact Au))
    refine ret_view [] ?_; simp only [go_sem]
    exact .mkTup (Vws.cons (.nil 3) (Vws.refl _))
end Go.AL
end
section
/- The truths and the stretches of the references. No condition. -/
namespace Go.AL
open Go Go.RowKit
set_option maxRecDepth 4000
theorem ref29_Truths (ps : List Pr) (hs : Sm ps) (p : Nat) (t : Pd) (hz : szF t ≤ 1000000) (he : lclF ps p 0 t = 0) : PC Go.Proofs.Tryz.prog 66 [aTr ps, ai p, aPd t] (.sl 1 ((truthsF ps p t).map ab)) := by
  have hl := hs.procs
  obtain ⟨hc, hp, _, _, h9, hlc⟩ := lcl_ok he
  have hel := hs.evs _ (List.getElem_mem hp)
  have hgp := getD_map (f := aPr) hp
  have hst := fun (k : Nat) hk => ref29_Local ps hs p k hp hk t hz hc h9 hlc
  rw [truthsF_nat hp, List.map_map]
  have hy : ∀ k, ((List.range k).map fun (k : Nat) => ab (lclT ps p t k)).length = k := fun k => by simp
  have hys : ∀ k, ((List.range (k + 1)).map fun (k : Nat) => ab (lclT ps p t k)) = ((List.range k).map fun (k : Nat) => ab (lclT ps p t k)) ++ [ab (lclT ps p t k)] := fun k => by rw [List.range_succ, List.map_append]; rfl
  have hfin : (List.range (ps[p].evs.length + 1)).map (ab ∘ fun (k : Nat) => lclT ps p t k) = (List.range (ps[p].evs.length + 1)).map fun (k : Nat) => ab (lclT ps p t k) := rfl
  rw [hfin]
  obtain ⟨k0, n, pp, q, s, l⟩ := t
  simp only [aPd_mk] at *
  generalize hY : (fun k : Nat => (List.range k).map fun (j : Nat) => ab (lclT ps p (.mk k0 n pp q s l) j)) = Y at *
  have hYk : ∀ k, ((List.range k).map fun (j : Nat) => ab (lclT ps p (.mk k0 n pp q s l) j)) = Y k := fun k => by rw [← hY]
  simp only [hYk] at hy hys ⊢
  refine PC.enter 29 [.tmp 6] [3, 5, 26] Go.Proofs.Tryz.func66 rfl rfl rfl rfl rfl (by simp) (AWp.of ?_); simp only [go_sem]
  repeat (first | ((with_reducible refine AWp.ofC ?_ ?_); (focus exact rfl); simp only [go_sem]) | ((with_reducible refine an ?_ ?_); focus exact Au))
  refine AWp.block (AWp.count 8 (ps[p].evs.length + 1) [7] [1, 3, 5] (fun k vs L => ∃ v, vs = [v] ∧ AppSt 4 1 (Y k) v L) rfl rfl ⟨anil, rfl, by rw [← hY]; exact .nil⟩ ?_)
  rintro k vs L' hk - ⟨v, rfl, hA⟩
  have hyl := hy k
  have hfo := hA.fo
  have hys := hys k
  have hfin := hy (ps[p].evs.length + 1)
  by_cases hke : k = ps[p].evs.length + 1
  · have hn : ¬ (k : Int) ≤ ps[p].evs.length := by omega
    rw [← hke] at *
    generalize Y k = ys at *
    rcases hA.inv with ⟨e1, rfl, rfl⟩ | ⟨b', cap, rfl, rfl⟩
    · rw [e1] at hyl; simp at hyl; omega
    · simp only [go_sem]
      repeat (first | ((with_reducible refine AWp.ofC ?_ ?_); (focus exact rfl); simp only [go_sem, hgp, hn]) | ((with_reducible refine an ?_ ?_); focus exact Au))
      refine ret_view [true] ?_; simp only [go_sem]
      exact Vw.ofLs (if_pos rfl) rfl
  · have hst := hst k (by omega)
    have hn : (k : Int) ≤ ps[p].evs.length := by omega
    generalize Y k = ys at *
    generalize lclT ps p (.mk k0 n pp q s l) k = b at *
    rcases hA.inv with ⟨e1, rfl, rfl⟩ | ⟨b', cap, rfl, rfl⟩
    · simp only [go_sem]
      repeat (first | ((with_reducible refine AWp.ofC ?_ ?_); (focus exact rfl); simp only [go_sem, hgp, hn]) | ((with_reducible refine an ?_ ?_); focus exact Au))
      repeat ((with_reducible refine an ?_ ?_); focus exact As)
      refine (hst).val.use ?_; simp only [go_sem]
      repeat ((with_reducible refine an ?_ ?_); focus exact As)
      intro b' cap' _
      repeat (first | ((with_reducible refine AWp.ofC ?_ ?_); (focus exact rfl); simp only [go_sem]) | ((with_reducible refine an ?_ ?_); focus exact Au))
      refine ⟨_, List.Sublist.refl _, _, rfl, ?_⟩
      rw [hys, e1]
      exact .row _ _ _
    · simp only [go_sem]
      repeat (first | ((with_reducible refine AWp.ofC ?_ ?_); (focus exact rfl); simp only [go_sem, hgp, hn]) | ((with_reducible refine an ?_ ?_); focus exact Au))
      repeat ((with_reducible refine an ?_ ?_); focus exact As)
      refine (hst).val.use ?_; simp only [go_sem]
      repeat ((with_reducible refine an ?_ ?_); focus exact As)
      intro b' cap' _
      repeat (first | ((with_reducible refine AWp.ofC ?_ ?_); (focus exact rfl); simp only [go_sem]) | ((with_reducible refine an ?_ ?_); focus exact Au))
      refine ⟨_, List.Sublist.refl _, _, rfl, ?_⟩
      rw [hys]
      have := AppSt.row (t := 4) (k := 1) b' (ys ++ [ab b]) cap'
      simpa using this
theorem ref37_Spans (ps : List Pr) (hs : Sm ps) (i : Nat) (t : Pd) (hz : szF t ≤ 1000000) (he : lclF ps i 0 t = 0) : PC Go.Proofs.Tryz.prog 17 [aTr ps, ai i, aPd t] (.sl 3 ((spansF ps i t).map aStp)) := by
  have h1 := ref29_Truths ps hs i t hz he
  have hl := hs.procs
  obtain ⟨_, hp, _, _, _, _⟩ := lcl_ok he
  have hel := hs.evs _ (List.getElem_mem hp)
  unfold spansF
  rw [nev_get hp]
  rw [truthsF_nat hp, List.map_map] at h1
  obtain ⟨b, hbd⟩ : ∃ b : Nat → Bool, b = fun k : Nat => lclT ps i t k := ⟨_, rfl⟩
  have hT : ∀ k, k < ps[i].evs.length + 1 → ((List.range (ps[i].evs.length + 1)).map (ab ∘ fun (k : Nat) => lclT ps i t k)).getD k .any = ab (b k) := fun k hk => by rw [hbd]; exact map_range_getD hk _
  have hTl : ((List.range (ps[i].evs.length + 1)).map (ab ∘ fun (k : Nat) => lclT ps i t k)).length = ps[i].evs.length + 1 := by simp
  generalize (List.range (ps[i].evs.length + 1)).map (ab ∘ fun (k : Nat) => lclT ps i t k) = T at *
  rw [← hbd]
  clear hbd
  obtain ⟨k0, n, pp, q, s, l⟩ := t
  simp only [aPd_mk] at *
  have hR : spL b i (ps[i].evs.length + 1) = spL b i T.length := by rw [hTl]
  rw [hR]
  clear hR
  refine PC.enter 49 [.tmp 6] [3, 5, 46] Go.Proofs.Tryz.func17 rfl rfl rfl rfl rfl (by simp) (AWp.of ?_); simp only [go_sem]
  repeat (first | ((with_reducible refine AWp.ofC ?_ ?_); (focus exact rfl); simp only [go_sem]) | ((with_reducible refine an ?_ ?_); focus exact Au))
  repeat ((with_reducible refine an ?_ ?_); focus exact As)
  refine (h1).val.use ?_; simp only [go_sem]
  repeat (first | ((with_reducible refine AWp.ofC ?_ ?_); (focus exact rfl); simp only [go_sem]) | ((with_reducible refine an ?_ ?_); focus exact Au))
  refine AWp.block (AWp.count 9 T.length [8] [1, 7] (fun k vs L => ∃ v, vs = [v] ∧ AppSt 77 3 ((spL b i k).map aStp) v L) rfl rfl ⟨anil, rfl, .nil⟩ ?_)
  rintro k vs L' hk - ⟨v, rfl, hA⟩
  have hfo := hA.fo
  by_cases hke : k = T.length
  · have hn : ¬ (k : Int) < T.length := by omega
    rw [← hke]
    rcases hA.inv with ⟨e3, rfl, rfl⟩ | ⟨bq, cap, rfl, rfl⟩
    · simp only [go_sem]
      repeat (first | ((with_reducible refine AWp.ofC ?_ ?_); (focus exact rfl); simp only [go_sem, hn]) | ((with_reducible refine an ?_ ?_); focus exact Au))
      refine ret_view [] ?_; simp only [go_sem]
      rw [e3]
      exact .nil 3
    · simp only [go_sem]
      repeat (first | ((with_reducible refine AWp.ofC ?_ ?_); (focus exact rfl); simp only [go_sem, hn]) | ((with_reducible refine an ?_ ?_); focus exact Au))
      refine ret_view [true] ?_; simp only [go_sem]
      exact Vw.ofLs (if_pos rfl) (List.length_map _).symm
  · have hn : (k : Int) < T.length := by omega
    have g0 := hT k (by omega)
    have g1 := hT (k - 1) (by omega)
    have gk : ((k : Int) - 1).toNat = k - 1 := by omega
    have hyk := spL_len (b := b) (p := i) k
    cases hbk : b k with
    | false =>
      rw [hbk] at g0
      have hno := spL_no (b := b) (p := i) hbk
      simp only [go_sem]
      repeat (first | ((with_reducible refine AWp.ofC ?_ ?_); (focus exact rfl); simp only [go_sem, g0, hn]) | ((with_reducible refine an ?_ ?_); focus exact Au))
      refine ⟨_, List.Sublist.refl _, v, rfl, ?_⟩
      rw [hno]
      exact hA
    | true =>
      rw [hbk] at g0
      simp only [go_sem]
      repeat (first | ((with_reducible refine AWp.ofC ?_ ?_); (focus exact rfl); simp only [go_sem, g0, g1, gk, hn, hfo]) | ((with_reducible refine an ?_ ?_); focus exact Au))
      refine ⟨fun h2 h3 => ?_, fun h2 => ?_⟩
      · obtain ⟨d, f, e1, e2⟩ := spL_on (b := b) (p := i) (k := k) hbk (by rw [decide_eq_true (by omega), h3]; rfl)
        rw [e1] at hA
        have gl : ((d ++ [(i, f, k - 1)]).map aStp).getD (((d ++ [(i, f, k - 1)]).map aStp).length - 1) .any = .agg [ai i, ai f, ai ((k - 1 : Nat) : Int)] := last_get d (i, f, k - 1)
        have gs : ((d ++ [(i, f, k - 1)]).map aStp).set (((d ++ [(i, f, k - 1)]).map aStp).length - 1) (.agg [ai i, ai f, ai k]) = (d ++ [(i, f, k)]).map aStp := last_set d (i, f, k - 1) (i, f, k)
        have hyl : 1 ≤ ((d ++ [(i, f, k - 1)]).map aStp).length := by simp
        rw [e1, ← List.length_map (f := aStp)] at hyk
        have hll : ((d ++ [(i, f, k)]).map aStp).length = ((d ++ [(i, f, k - 1)]).map aStp).length := by simp
        generalize ((d ++ [(i, f, k - 1)]).map aStp) = ys at *
        have gn : ((ys.length : Int) - 1).toNat = ys.length - 1 := by omega
        rcases hA.inv with ⟨e3, _, _⟩ | ⟨bq, cap, rfl, rfl⟩
        · rw [e3] at hyl; simp at hyl
        · repeat (first | ((with_reducible refine AWp.ofC ?_ ?_); (focus exact rfl); simp only [go_sem]) | ((with_reducible refine an ?_ ?_); focus exact Au))
          simp only [go_sem, gl, gn, gs]
          repeat ((with_reducible refine an ?_ ?_); focus exact As)
          repeat (first | ((with_reducible refine AWp.ofC ?_ ?_); (focus exact rfl); simp only [go_sem]) | ((with_reducible refine an ?_ ?_); focus exact Au))
          refine ⟨_, List.Sublist.refl _, _, rfl, ?_⟩
          rw [e2, ← hll]
          exact .row _ _ _
      · have e0 : (decide (0 < k) && b (k - 1)) = false := by
          by_cases h3 : 0 < k
          · rw [decide_eq_true h3, Bool.true_and]; simpa using h2 (by omega)
          · rw [decide_eq_false h3]; rfl
        have hne := spL_new (b := b) (p := i) hbk e0
        have ea : [(i, k, k)].map aStp = [.agg [ai i, ai k, ai k]] := rfl
        rw [← List.length_map (f := aStp)] at hyk
        generalize hys : (spL b i k).map aStp = ys at *
        rcases hA.inv with ⟨e3, rfl, rfl⟩ | ⟨bq, cap, rfl, rfl⟩
        · subst e3
          repeat (first | ((with_reducible refine AWp.ofC ?_ ?_); (focus exact rfl); simp only [go_sem]) | ((with_reducible refine an ?_ ?_); focus exact Au))
          simp only [go_sem]
          repeat ((with_reducible refine an ?_ ?_); focus exact As)
          intro b' cap' _
          repeat (first | ((with_reducible refine AWp.ofC ?_ ?_); (focus exact rfl); simp only [go_sem]) | ((with_reducible refine an ?_ ?_); focus exact Au))
          refine ⟨_, List.Sublist.refl _, _, rfl, ?_⟩
          rw [hne, List.map_append, hys, ea]
          exact .row _ _ _
        · repeat (first | ((with_reducible refine AWp.ofC ?_ ?_); (focus exact rfl); simp only [go_sem]) | ((with_reducible refine an ?_ ?_); focus exact Au))
          simp only [go_sem]
          repeat ((with_reducible refine an ?_ ?_); focus exact As)
          intro b' cap' _
          repeat (first | ((with_reducible refine AWp.ofC ?_ ?_); (focus exact rfl); simp only [go_sem]) | ((with_reducible refine an ?_ ?_); focus exact Au))
          refine ⟨_, List.Sublist.refl _, _, rfl, ?_⟩
          rw [hne, List.map_append, hys, ea]
          have := AppSt.row (t := 77) (k := 3) b' (ys ++ [.agg [ai i, ai k, ai k]]) cap'
          simpa using this
end Go.AL
end
section
/- The layer AL: ranges over slices of any length. No condition. -/
namespace Go.AL
open Go Go.RowKit
theorem AWp.range1 {C : Cfg} {id i1 i2 t s n t2 : Nat} {ty1 ty2 ty3 ty4 r1 r2 r3 : TypeId} {p1 p2 p3 : String} {a1 a2 a3 : Array Edge} {body : Code} {Q : AQ} {ρ : Env} {L : AHeap}
    (m : Nat) (ls ks : List Nat) (I : Nat → List AV → AHeap → Prop) (hm : m ≤ 9223372036854775807) (hs : get ρ s = ai 0) (hn : get ρ n = ai m) (hnk : n ∈ ks) (hsk : s ∉ ks) (hsl : s ∉ ls) (hts : t ≠ s) (htk : t ∉ ks) (h2k : t2 ∉ ks) (htl : t ∉ ls) (h2l : t2 ∉ ls)
    (h0 : I 0 (ls.map (get ρ)) L)
    (round : ∀ k vs L', k < m → vs.length = ls.length → I k vs L' → AWp C body (rangeQ id s k ls ks ρ (I (k + 1)) Q) ((s, ai k) :: lenv ls ks vs ρ) L')
    (done : ∀ vs L', vs.length = ls.length → I m vs L' → Q .normal ((s, ai m) :: lenv ls ks vs ρ) L') :
    AWp C (.block id (.loop (.seq (.region i1 #[⟨some t, .binOp .lss ty1 (.tmp s) (.tmp n) ty2, r1, p1, a1, none⟩] false) (.seq (.cond (.tmp t) .skip (.exit id)) (.seq body
      (.region i2 #[⟨some t2, .binOp .add ty3 (.tmp s) (.const (.int .i64 1)) ty4, r2, p2, a2, none⟩, ⟨some s, .move (.tmp t2), r3, p3, a3, none⟩] false)))))) Q ρ L := by
  have hnl : ∀ vs : List AV, vs.length = ls.length → get (lenv ls ks vs ρ) n = ai m := fun vs _ => by
    unfold lenv
    have hin : n ∈ (keep ks ρ).map (·.1) := by simp [keep, hnk]
    rw [get_append, if_pos hin]
    rcases get_keep ks ρ n with e | e
    · have : ∀ l : List Nat, n ∈ l → get (keep l ρ) n = get ρ n := fun l => by
        induction l with
        | nil => intro h; cases h
        | cons x r ih =>
          intro h
          simp only [keep, List.map_cons, get]
          split
          · rename_i e; rw [e]
          · rename_i e; exact ih ((List.mem_cons.1 h).resolve_left e)
      rw [this ks hnk, hn]
    · rw [e, hn]
  have hns : n ≠ s := fun e => hsk (e ▸ hnk)
  have dropT : ∀ (k : Nat) (vs : List AV) (x : AV) (i : Nat), get ((s, ai k) :: lenv ls ks vs ρ) i = .any ∨ get ((s, ai k) :: lenv ls ks vs ρ) i = get ((t, x) :: (s, ai k) :: lenv ls ks vs ρ) i := fun k vs x i => by
    by_cases hi : i = t
    · subst hi
      refine .inl ?_
      simp only [get, if_neg hts, lenv]
      rw [get_append, if_neg (by simp [keep, htk])]
      have : ∀ (l : List Nat) (v : List AV), i ∉ l → get (l.zip v) i = .any := fun l => by
        induction l with
        | nil => intro v _; rfl
        | cons x r ih =>
          intro v h
          cases v with
          | nil => rfl
          | cons y v =>
            simp only [List.zip_cons_cons, get]
            rw [if_neg (by rintro rfl; exact h List.mem_cons_self)]
            exact ih v (fun hh => h (List.mem_cons_of_mem _ hh))
      exact this ls vs htl
    · exact .inr (by simp [get, hi])
  refine AWp.block (AWp.loop (s :: ls) ks (fun vs' L' => ∃ (k : Nat) (vs : List AV), vs' = ai (k : Int) :: vs ∧ k ≤ m ∧ I k vs L') (fun vs' _ => match vs' with | .v (.int _ k) :: _ => m - k.toNat | _ => 0)
    ⟨0, _, by simp [hs], Nat.zero_le _, h0⟩ ?_)
  rintro vs' L' hl ⟨k, vs, rfl, hk, hI⟩
  have hvl : vs.length = ls.length := by simpa using hl
  -- the counter first
  refine AWp.st (ρ' := (s, ai k) :: lenv ls ks vs ρ) (L' := L') (fun w0 M A0 a w h => st_forget h fun i => ?_) ?_
  · by_cases hi : i = s
    · subst hi
      refine .inr ?_
      simp only [get, if_true, lenv]
      rw [get_append, if_neg (by simp [keep, hsk])]
      simp [get]
    · refine .inr ?_
      simp only [get, if_neg hi, lenv, List.zip_cons_cons]
      rw [get_append, get_append]
      split
      · rfl
      · simp [get, hi]
  have hget_s : get ((s, ai k) :: lenv ls ks vs ρ) s = ai k := by simp [get]
  have hget_n : get ((s, ai k) :: lenv ls ks vs ρ) n = ai m := by simp only [get, if_neg hns]; exact hnl vs hvl
  refine AWp.seq (AWp.region ?_)
  simp only [aregion, astep, aop, aval, ev, hget_s, hget_n, w2, fo, aEq, aBin, thenQ, put]
  refine ⟨by simp, ?_⟩
  refine AWp.seq (AWp.cond (t := decide ((k : Int) < m)) (by simp [ev, get]) (fun ht => ?_) (fun hf => ?_))
  · have hlt : k < m := by simpa using ht
    refine AWp.of ?_
    simp only [awp1, thenQ]
    refine AWp.st (ρ' := (s, ai k) :: lenv ls ks vs ρ) (L' := L') (fun w0 M A0 a w h => st_forget h (dropT k vs _)) ?_
    refine AWp.seq ((round k vs L' hlt hvl hI).mono ?_)
    intro e ρ' L'' hq
    cases e with
    | normal =>
      obtain ⟨g1, g2, L3, g3, g4⟩ := hq
      simp only [thenQ]
      refine AWp.region ?_
      have hi64 : I64 ((k : Int) + 1) := by unfold I64; omega
      simp only [aregion, astep, aop, aval, ev, g1, w2, fo, aEq, aBin, put, if_true, get]
      refine ⟨⟨⟨trivial, trivial⟩, trivial, hi64⟩, trivial, ?_⟩
      simp only [roundQ]
      have hks : ks.map (get ((s, ai ((k : Int) + 1)) :: (t2, ai ((k : Int) + 1)) :: ρ')) = ks.map (get ρ') := List.map_congr_left fun j hj => by
        simp only [get]; rw [if_neg (by rintro rfl; exact hsk hj), if_neg (by rintro rfl; exact h2k hj)]
      have hls : ls.map (get ((s, ai ((k : Int) + 1)) :: (t2, ai ((k : Int) + 1)) :: ρ')) = ls.map (get ρ') := List.map_congr_left fun j hj => by
        simp only [get]; rw [if_neg (by rintro rfl; exact hsl hj), if_neg (by rintro rfl; exact h2l hj)]
      refine ⟨by rw [hks]; exact g2, L3, g3, ⟨k + 1, _, ?_, hlt, g4⟩, ?_⟩
      · rw [List.map_cons, hls]
        simp only [get, if_true]
        rfl
      · simp only [List.map_cons, get, if_true]
        have : ((k : Int) + 1).toNat = k + 1 := by omega
        simp only [this, Int.toNat_natCast]
        omega
    | exit id' => simpa [thenQ, roundQ, blockQ, rangeQ] using hq
    | goto l => exact hq
    | ret => exact hq
    | panic c => exact hq
    | outgrown => exact hq
  · have hkm : k = m := by have : ¬ ((k : Int) < m) := by simpa using hf
                           omega
    subst hkm
    refine AWp.st (ρ' := (s, ai k) :: lenv ls ks vs ρ) (L' := L') (fun w0 M A0 a w h => st_forget h (dropT k vs _)) (AWp.of ?_)
    simp only [awp1, thenQ, roundQ, blockQ, if_true]
    exact done vs L' hvl hI
theorem AWp.range1' {C : Cfg} {id i1 i2 t s n t2 : Nat} {ty1 ty2 ty3 ty4 r1 r2 r3 : TypeId} {p1 p2 p3 : String} {a1 a2 a3 : Array Edge} {body : Code} {Q : AQ} {ρ : Env} {L : AHeap}
    (m : Nat) (ls ks : List Nat) (I : Nat → List AV → AHeap → Prop) (hm : m ≤ 9223372036854775807) (hs : get ρ s = ai 0) (hn : get ρ n = ai m) (hok : rOk s n t t2 ls ks = true)
    (h0 : I 0 (ls.map (get ρ)) L)
    (round : ∀ k vs L', k < m → vs.length = ls.length → I k vs L' → AWp C body (rangeQ id s k ls ks ρ (I (k + 1)) Q) ((s, ai k) :: lenv ls ks vs ρ) L')
    (done : ∀ vs L', vs.length = ls.length → I m vs L' → Q .normal ((s, ai m) :: lenv ls ks vs ρ) L') :
    AWp C (.block id (.loop (.seq (.region i1 #[⟨some t, .binOp .lss ty1 (.tmp s) (.tmp n) ty2, r1, p1, a1, none⟩] false) (.seq (.cond (.tmp t) .skip (.exit id)) (.seq body
      (.region i2 #[⟨some t2, .binOp .add ty3 (.tmp s) (.const (.int .i64 1)) ty4, r2, p2, a2, none⟩, ⟨some s, .move (.tmp t2), r3, p3, a3, none⟩] false)))))) Q ρ L := by
  simp only [rOk, Bool.and_eq_true, Bool.not_eq_true', List.contains_eq_mem, decide_eq_false_iff_not, decide_eq_true_eq, bne_iff_ne, ne_eq] at hok
  obtain ⟨⟨⟨⟨⟨⟨⟨h1, h2⟩, h3⟩, h4⟩, h5⟩, h6⟩, h7⟩, h8⟩ := hok
  exact AWp.range1 m ls ks I hm hs hn h1 h2 h3 h4 h5 h6 h7 h8 h0 round done
end Go.AL
end
section
/- Great traces; how many events there are. No condition. -/
namespace Go.AL
open Go Go.RowKit
set_option maxRecDepth 4000
def asg20 (e : Ev) : Bool := decide (20 < (e.asg.length : Int))
def bigP (x : Pr) : Bool := decide (70 < (x.evs.length : Int)) || (decide (20 < (x.vars.length : Int)) || x.evs.any asg20)
def bigF (ps : List Pr) : Bool := decide (10 < (ps.length : Int)) || ps.any bigP
theorem bigF_sm {ps : List Pr} (h : bigF ps = false) : Sm ps := by
  simp only [bigF, Bool.or_eq_false_iff, decide_eq_false_iff_not, List.any_eq_false, bigP, asg20, Bool.or_eq_true, decide_eq_true_eq, not_or, Bool.not_eq_true] at h
  obtain ⟨h1, h2⟩ := h
  exact ⟨by omega, fun p hp => by have := (h2 p hp).1; omega, fun p hp => by have := (h2 p hp).2.1; omega, fun p hp e he => by have := (h2 p hp).2.2 e he; omega⟩
end Go.AL
end
section
/- Equal trees; trees that are too great. No condition. -/
namespace Go.AL
open Go Go.RowKit
set_option maxRecDepth 4000
/-! ### Trees that are too great -/
mutual
def hugeF : Pd → Int → Int → Int
  | .mk _ _ _ _ _ l, d, c => hugeL l (d + 1) (if 40 < d then 1000 else c + 1)
def hugeL : List Pd → Int → Int → Int
  | [], _, c => c
  | x :: r, d, c => if c ≤ 300 then hugeL r d (hugeF x d c) else c
end
theorem hugeL_nil (d c : Int) : hugeL [] d c = c := by rw [hugeL]
theorem hugeL_cons (x : Pd) (r : List Pd) (d c : Int) : hugeL (x :: r) d c = if c ≤ 300 then hugeL r d (hugeF x d c) else c := by rw [hugeL]
theorem hugeF_spec (t : Pd) : ∀ d c : Int, 0 ≤ c → c ≤ 300 → c + 1 ≤ hugeF t d c ∧ hugeF t d c ≤ 1000 ∧ (hugeF t d c ≤ 300 → (c + szF t : Int) ≤ hugeF t d c) := by
  induction t using Pd.ind with
  | _ k n p q s l ih =>
  intro d c h0 h1
  rw [hugeF, szF]
  have hl : ∀ l' : List Pd, (∀ x ∈ l', x ∈ l) → ∀ c : Int, 0 ≤ c → c ≤ 1000 → c ≤ hugeL l' (d + 1) c ∧ hugeL l' (d + 1) c ≤ 1000 ∧ (hugeL l' (d + 1) c ≤ 300 → (c + szL l' : Int) ≤ hugeL l' (d + 1) c) := by
    intro l'
    induction l' with
    | nil => intro _ c h0 h1; rw [hugeL, szL]; exact ⟨by omega, h1, fun _ => by omega⟩
    | cons x r ihr =>
      intro hm c h0 h1
      rw [hugeL, szL]
      by_cases hc : c ≤ 300
      · rw [if_pos hc]
        obtain ⟨a1, a2, a3⟩ := ih x (hm x List.mem_cons_self) (d + 1) c h0 hc
        obtain ⟨b1, b2, b3⟩ := ihr (fun y hy => hm y (List.mem_cons_of_mem _ hy)) (hugeF x (d + 1) c) (by omega) a2
        exact ⟨by omega, b2, fun h => by have := b3 h; have := a3 (by omega); omega⟩
      · rw [if_neg hc]
        exact ⟨by omega, h1, fun h => absurd h hc⟩
  split
  · obtain ⟨b1, b2, b3⟩ := hl l (fun _ h => h) 1000 (by decide) (by decide)
    exact ⟨by omega, b2, fun h => by omega⟩
  · obtain ⟨b1, b2, b3⟩ := hl l (fun _ h => h) (c + 1) (by omega) (by omega)
    exact ⟨by omega, b2, fun h => by have := b3 h; omega⟩
theorem hugeL_take {l : List Pd} {d c : Int} : ∀ {i : Nat} (hi : i < l.length), hugeL (l.take (i + 1)) d c = if hugeL (l.take i) d c ≤ 300 then hugeF l[i] d (hugeL (l.take i) d c) else hugeL (l.take i) d c := by
  induction l generalizing c with
  | nil => intro i hi; simp at hi
  | cons x r ih =>
    intro i hi
    cases i with
    | zero =>
      simp only [List.take_succ_cons, List.take_zero, List.getElem_cons_zero, hugeL_cons, hugeL_nil]
    | succ i =>
      simp only [List.take_succ_cons, List.getElem_cons_succ]
      simp only [hugeL_cons]
      by_cases h : c ≤ 300
      · rw [if_pos h, if_pos h]; exact ih (by simpa using hi)
      · rw [if_neg h, if_neg h, if_neg h]
theorem hugeL_full {l : List Pd} {d c : Int} {i : Nat} (h : ¬ hugeL (l.take i) d c ≤ 300) : hugeL l d c = hugeL (l.take i) d c := by
  induction l generalizing c i with
  | nil => rw [List.take_nil]
  | cons x r ih =>
    cases i with
    | zero =>
      have e0 : hugeL [] d c = c := by rw [hugeL]
      rw [List.take_zero, e0] at h
      rw [List.take_zero, e0, hugeL, if_neg h]
    | succ i =>
      rw [List.take_succ_cons, hugeL] at *
      rw [hugeL]
      by_cases hc : c ≤ 300
      · rw [if_pos hc] at h ⊢; rw [if_pos hc]; exact ih h
      · rw [if_neg hc, if_neg hc]
def aHuge (bn bw : Nat) : AV := .clo 157 [.lp bn 1 0 0, .lp bw 1 0 0]
def Lh (bn bw : Nat) (c : Int) : AHeap := [(bw, .row 104 1 [aHuge bn bw] 1), (bn, .row 3 1 [ai c] 1)]
theorem not_huge {t : Pd} (h : ¬ 300 < hugeF t 0 0) : szF t ≤ 300 := by
  have := (hugeF_spec t 0 0 (by decide) (by decide)).2.2 (by omega)
  omega
end Go.AL
end
section
/- The law of layer 37: great traces and great trees. No condition. -/
namespace Go.AL
open Go Go.RowKit
set_option maxRecDepth 4000
theorem law37_big11 (e : Ev) : PC Go.Proofs.Tryz.prog 61 [aEv e] (ab (asg20 e)) := by
  refine PC.enter 7 [.tmp 2] [1] Go.Proofs.Tryz.func61 rfl rfl rfl rfl rfl (by simp) (AWp.of ?_); simp only [go_sem]
  repeat (first | ((with_reducible refine AWp.ofC ?_ ?_); (focus exact rfl); simp only [go_sem]) | ((with_reducible refine an ?_ ?_); focus exact Au))
  refine ret_eq ?_; simp only [go_sem]
  rfl
theorem law37_big1 (x : Pr) : PC Go.Proofs.Tryz.prog 59 [aPr x] (ab (bigP x)) := by
  refine PC.enter 18 [.tmp 2] [1] Go.Proofs.Tryz.func59 rfl rfl rfl rfl rfl (by simp) (AWp.of ?_); simp only [go_sem]
  repeat (first | ((with_reducible refine AWp.ofC ?_ ?_); (focus exact rfl); simp only [go_sem]) | ((with_reducible refine an ?_ ?_); focus exact Au))
  refine GCall.use (ab (x.evs.any asg20)) (fun hg => ⟨by have := hg; simp at this ⊢; omega, (events_containsFunc x.evs (by have := hg; simp at this; omega) _ rfl asg20 fun e _ => (law37_big11 e).val).val.use ⟨rfl, rfl⟩⟩) ?_; simp only [go_sem]
  repeat (first | ((with_reducible refine AWp.ofC ?_ ?_); (focus exact rfl); simp only [go_sem]) | ((with_reducible refine an ?_ ?_); focus exact Au))
  refine ret_eq ?_; simp only [go_sem]
  unfold bigP; rw [Bool.or_assoc]
theorem law37_big (ps : List Pr) : PC Go.Proofs.Tryz.prog 12 [aTr ps] (ab (bigF ps)) := by
  refine PC.enter 12 [.tmp 2] [1] Go.Proofs.Tryz.func12 rfl rfl rfl rfl rfl (by simp) (AWp.of ?_); simp only [go_sem]
  repeat (first | ((with_reducible refine AWp.ofC ?_ ?_); (focus exact rfl); simp only [go_sem]) | ((with_reducible refine an ?_ ?_); focus exact Au))
  refine GCall.use (ab (ps.any bigP)) (fun hg => ⟨by have := hg; simp at this ⊢; omega, (procs_containsFunc ps (by have := hg; simp at this; omega) _ rfl bigP fun e _ => (law37_big1 e).val).val.use ⟨rfl, rfl⟩⟩) ?_; simp only [go_sem]
  repeat (first | ((with_reducible refine AWp.ofC ?_ ?_); (focus exact rfl); simp only [go_sem]) | ((with_reducible refine an ?_ ?_); focus exact Au))
  refine ret_eq ?_; simp only [go_sem]
  rfl
def aHugeC (bn bw : Nat) : AV := .clo 62 [.lp bn 1 0 0, .lp bw 1 0 0]
def LhC (bn bw : Nat) (c : Int) : AHeap := [(bw, .row 104 1 [aHugeC bn bw] 1), (bn, .row 3 1 [ai c] 1)]
theorem law37_huge1 (bn bw : Nat) (hb : ¬ bn = bw) (t : Pd) : ∀ d c : Int, 0 ≤ d → d ≤ 41 → 0 ≤ c → c ≤ 300 →
    MCalls Go.Proofs.Tryz.prog 62 [aPd t, ai d, .lp bn 1 0 0, .lp bw 1 0 0] (LhC bn bw c) fun r L => r = .tup [] ∧ L = LhC bn bw (hugeF t d c) := by
  induction t using Pd.ind with
  | _ k n p q s l ih =>
  intro d c d0 d1 c0 c1
  have hb' : ¬ bw = bn := fun e => hb e.symm
  have hsp : hugeF (.mk k n p q s l) d c = hugeL l (d + 1) (if 40 < d then 1000 else c + 1) := by rw [hugeF]
  unfold LhC aHugeC at *
  refine MCalls.enter' 31 [] [4] Go.Proofs.Tryz.func62 rfl rfl rfl rfl rfl (by simp) (AWp.of ?_); simp only [go_sem]
  generalize hugeF (.mk k n p q s l) d c = z at *
  repeat ((with_reducible refine an ?_ ?_); focus exact As)
  refine AWp.of ?_; simp only [go_sem, hb]
  repeat ((with_reducible refine an ?_ ?_); focus exact As)
  refine AWp.cut [1, 2, 3, 4] (fun vs L => vs = [ai d, .lp bn 1 0 0, .lp bw 1 0 0, .rp 6 [aPd (.mk k n p q s l)] 0 0] ∧ L = [(bw, ABlk.row 104 1 [.clo 62 [.lp bn 1 0 0, .lp bw 1 0 0]] 1), (bn, ABlk.row 3 1 [ai (if 40 < d then 1000 else c + 1)] 1)]) ?_ ?_
  · repeat (first | ((with_reducible refine AWp.ofC ?_ ?_); (focus exact rfl); simp only [go_sem, hb]) | ((with_reducible refine an ?_ ?_); focus exact Au))
    refine ⟨fun h1 => ?_, fun h1 => ?_⟩
    · repeat (first | ((with_reducible refine AWp.ofC ?_ ?_); (focus exact rfl); simp only [go_sem]) | ((with_reducible refine an ?_ ?_); focus exact Au))
      exact ⟨_, List.Sublist.refl _, by rw [if_pos h1]⟩
    · exact ⟨_, List.Sublist.refl _, by rw [if_neg h1]⟩
  rintro vs L - ⟨rfl, rfl⟩
  have hd40 : (if 40 < d then 1000 else c + 1) ≤ 300 → d ≤ 40 := by split <;> omega
  have hC : 0 ≤ (if 40 < d then 1000 else c + 1) ∧ (if 40 < d then 1000 else c + 1) ≤ 1000 := by split <;> omega
  generalize (if 40 < d then 1000 else c + 1) = C at *
  simp only [go_sem]
  repeat (first | ((with_reducible refine AWp.ofC ?_ ?_); (focus exact rfl); simp only [go_sem]) | ((with_reducible refine an ?_ ?_); focus exact Au))
  refine AWp.block (AWp.count 6 l.length [] [1, 2, 3, 4] (fun i vs L => (i : Int) ≤ hugeL (l.take i) (d + 1) C ∧ C ≤ hugeL (l.take i) (d + 1) C ∧ hugeL (l.take i) (d + 1) C ≤ 1000 ∧ L = [(bw, ABlk.row 104 1 [.clo 62 [.lp bn 1 0 0, .lp bw 1 0 0]] 1), (bn, ABlk.row 3 1 [ai (hugeL (l.take i) (d + 1) C)] 1)]) rfl rfl (by rw [List.take_zero, hugeL_nil]; exact ⟨by omega, by omega, by omega, rfl⟩) ?_)
  rintro i vs L hi - ⟨hi1, hi2, hi3, rfl⟩
  have hfull := fun h => hugeL_full (l := l) (d := d + 1) (c := C) (i := i) h
  have htk := fun (h : i < l.length) => hugeL_take (l := l) (d := d + 1) (c := C) h
  have hend : i = l.length → hugeL (l.take i) (d + 1) C = hugeL l (d + 1) C := fun h => by rw [h, List.take_length]
  generalize hugeL (l.take i) (d + 1) C = ci at *
  simp only [go_sem]
  repeat (first | ((with_reducible refine AWp.ofC ?_ ?_); (focus exact rfl); simp only [go_sem, hb]) | ((with_reducible refine an ?_ ?_); focus exact Au))
  refine ⟨fun h4 h5 => ?_, fun h4 => ?_⟩
  · have hil : i < l.length := by omega
    have hgi := getD_map (f := aPd) hil
    have hch := ih l[i] (List.getElem_mem hil) (d + 1) ci (by omega) (by omega) (by omega) h5
    have htk := htk hil
    rw [if_pos h5] at htk
    obtain ⟨g1, g2, _⟩ := hugeF_spec l[i] (d + 1) ci (by omega) h5
    generalize hugeF l[i] (d + 1) ci = cn at *
    generalize l[i] = x at *
    obtain ⟨k2, n2, p2, q2, s2, l2⟩ := x
    simp only [aPd_mk] at hgi hch
    refine AWp.seq (AWp.block ?_)
    refine AWp.mix mixed [1, 2, 3, 4, 5, 6, 7] (.step 0 (.step 8 .done .done) .done) (by kernel_rfl) ?_; simp only [go_sem, hgi, hb']
    repeat ((with_reducible refine an ?_ ?_); focus exact As)
    refine (MCalls.clo hch).mono ?_
    rintro r L ⟨rfl, rfl⟩
    simp only [go_sem]
    repeat (first | ((with_reducible refine AWp.ofC ?_ ?_); (focus exact rfl); simp only [go_sem]) | ((with_reducible refine an ?_ ?_); focus exact Au))
    exact ⟨_, List.Sublist.refl _, by rw [htk]; omega, by rw [htk]; omega, by rw [htk]; exact g2, by rw [htk]⟩
  · repeat (first | ((with_reducible refine AWp.ofC ?_ ?_); (focus exact rfl); simp only [go_sem]) | ((with_reducible refine an ?_ ?_); focus exact Au))
    have hz : z = ci := by
      rw [hsp]
      by_cases e : ci ≤ 300
      · have : ¬ (i : Int) < l.length := fun h => h4 h e
        rw [hend (by omega)]
      · exact hfull e
    refine ret_own ?_
    simp only [go_sem]
    rw [hz]
/-- Some tree is too great, or there are too many. -/
def manyF (ts : List Pd) : Bool := ts.any (fun t => decide (300 < hugeF t 0 0)) || decide (10 < ts.length)
theorem many_size {ts : List Pd} (h : manyF ts = false) : ts.length ≤ 10 ∧ ∀ t ∈ ts, szF t ≤ 300 := by
  unfold manyF at h
  simp only [Bool.or_eq_false_iff, List.any_eq_false, decide_eq_true_eq, decide_eq_false_iff_not] at h
  exact ⟨by omega, fun t ht => not_huge (h.1 t ht)⟩
theorem law37_huge (ts : List Pd) (htl : ts.length ≤ 9223372036854775807) : PC Go.Proofs.Tryz.prog 13 [.sl 6 (ts.map aPd)] (ab (manyF ts)) := by
  have hw := fun (t : Pd) bn bw (hb : ¬ bn = bw) => law37_huge1 bn bw hb t 0 0 (by decide) (by decide) (by decide) (by decide)
  have h1 : ∀ i (hi : i < ts.length), 300 < hugeF ts[i] 0 0 → manyF ts = true := fun i hi h => by
    unfold manyF; rw [List.any_eq_true.2 ⟨_, List.getElem_mem hi, decide_eq_true h⟩]; rfl
  have h0 : (∀ i (hi : i < ts.length), ¬ 300 < hugeF ts[i] 0 0) → manyF ts = decide (10 < (ts.length : Int)) := fun h => by
    unfold manyF
    rw [List.any_eq_false.2 fun t ht => by obtain ⟨i, hi, rfl⟩ := List.getElem_of_mem ht; simpa using h i hi]
    rw [Bool.false_or, decide_eq_decide]; omega
  generalize manyF ts = B at *
  unfold LhC aHugeC at hw
  refine PC.enter 23 [.tmp 2] [6] Go.Proofs.Tryz.func13 rfl rfl rfl rfl rfl (by simp) (AWp.of ?_); simp only [go_sem]
  repeat (first | ((with_reducible refine AWp.ofC ?_ ?_); (focus exact rfl); simp only [go_sem]) | ((with_reducible refine an ?_ ?_); focus exact Au))
  intro bn
  repeat (first | ((with_reducible refine AWp.ofC ?_ ?_); (focus exact rfl); simp only [go_sem]) | ((with_reducible refine an ?_ ?_); focus exact Au))
  intro bw hlt
  have hb : ¬ bw = bn := by omega
  have hb' : ¬ bn = bw := by omega
  repeat (first | ((with_reducible refine AWp.ofC ?_ ?_); (focus exact rfl); simp only [go_sem, hb]) | ((with_reducible refine an ?_ ?_); focus exact Au))
  repeat ((with_reducible refine an ?_ ?_); focus exact As)
  repeat (first | ((with_reducible refine AWp.ofC ?_ ?_); (focus exact rfl); simp only [go_sem, hb, hb']) | ((with_reducible refine an ?_ ?_); focus exact Au))
  refine AWp.range1' ts.length [] [0, 3, 4, 8, 9] (fun k vs L => (∃ c, L = [(bw, ABlk.row 104 1 [.clo 62 [.lp bn 1 0 0, .lp bw 1 0 0]] 1), (bn, ABlk.row 3 1 [ai c] 1)]) ∧ ∀ j (hj : j < ts.length), j < k → ¬ 300 < hugeF ts[j] 0 0) (by omega) rfl rfl rfl ⟨⟨0, rfl⟩, fun j hj h => by omega⟩ ?_ ?_
  · rintro k vs L hk - ⟨⟨c, rfl⟩, hJ⟩
    have hgt := getD_map (f := aPd) hk
    have hw := hw ts[k]
    have h1 := h1 k hk
    have hJ2 : ¬ 300 < hugeF ts[k] 0 0 → ∀ j (hj : j < ts.length), j < k + 1 → ¬ 300 < hugeF ts[j] 0 0 := fun e j hj h => by
      by_cases ej : j = k
      · subst ej; exact e
      · exact hJ j hj (by omega)
    generalize hugeF ts[k] 0 0 = z at *
    generalize ts[k] = t at *
    obtain ⟨k0, n, p, q, s, l⟩ := t
    simp only [aPd_mk] at *
    simp only [go_sem]
    repeat (first | ((with_reducible refine AWp.ofC ?_ ?_); (focus exact rfl); simp only [go_sem, hgt]) | ((with_reducible refine an ?_ ?_); focus exact Au))
    intro b6 _ _
    repeat (first | ((with_reducible refine AWp.ofC ?_ ?_); (focus exact rfl); simp only [go_sem, hb, hb']) | ((with_reducible refine an ?_ ?_); focus exact Au))
    refine (MCalls.clo (hw bn bw hb')).mono ?_
    rintro r L ⟨rfl, rfl⟩
    simp only [go_sem]
    repeat (first | ((with_reducible refine AWp.ofC ?_ ?_); (focus exact rfl); simp only [go_sem, hb']) | ((with_reducible refine an ?_ ?_); focus exact Au))
    refine ⟨fun h4 => ?_, fun h4 => ?_⟩
    · repeat (first | ((with_reducible refine AWp.ofC ?_ ?_); (focus exact rfl); simp only [go_sem]) | ((with_reducible refine an ?_ ?_); focus exact Au))
      refine ret_eq ?_; simp only [go_sem]
      rw [h1 h4]
    · exact ⟨_, List.Sublist.refl _, ⟨_, rfl⟩, hJ2 (by omega)⟩
  · rintro vs L - ⟨⟨c, rfl⟩, hJ⟩
    simp only [go_sem]
    repeat (first | ((with_reducible refine AWp.ofC ?_ ?_); (focus exact rfl); simp only [go_sem]) | ((with_reducible refine an ?_ ?_); focus exact Au))
    refine ret_eq ?_; simp only [go_sem]
    rw [h0 fun j hj => hJ j hj hj]
end Go.AL
end
section
/- The law ConjunctiveSpans: the walk. No condition. -/
namespace Go.AL
open Go Go.RowKit
set_option maxRecDepth 4000
theorem same_st (l : List Stp) (hl : l.length ≤ 9223372036854775806) : PC Go.Proofs.Tryz.prog 16 [.sl 3 (l.map aStp), .sl 3 (l.map aStp)] (ab true) := by
  have h := ref37_SameSpans (l.map stpI) (l.map stpI) (by simpa using hl) (by simpa using hl)
  rw [decide_eq_true rfl] at h
  rw [aStp_I]
  exact h
theorem law37_ConjunctiveSpans (ps : List Pr) (p : Int) (t : Pd) : PC Go.Proofs.Tryz.prog 3 [aTr ps, ai p, aPd t] (ab true) := by
  have haw := law37_awake
  have hbig := law37_big ps
  have hhu := law37_huge [t] (by rw [List.length_singleton]; decide)
  have hsm := @bigF_sm ps
  have hz : manyF [t] = false → szF t ≤ 1000000 := fun h => by have := (many_size h).2 t (by simp); omega
  have hS := fun hs h => conj_Spans ps hs p t h
  have hF := fun hs h => ref29_LocalFault ps hs p 0 t h
  have hR := fun hs h (i : Nat) (e : p = i) (he : lclF ps p 0 t = 0) => ref37_Spans ps hs i t h (by rw [← e]; exact he)
  unfold aSpansR at hS
  have hp0 : lclF ps p 0 t = 0 → ∃ i : Nat, p = i ∧ i < ps.length := fun he => by
    have h0 : 0 ≤ p := by
      unfold lclF at he
      split at he
      · rename_i h; exact absurd he h
      · split at he
        · cases he
        · rename_i h; omega
    obtain ⟨i, rfl⟩ : ∃ i : Nat, p = i := ⟨p.toNat, by omega⟩
    obtain ⟨_, hp, _⟩ := lcl_ok he
    exact ⟨i, rfl, hp⟩
  have hlen : ∀ hs : Sm ps, ∀ i, i < ps.length → (spansF ps i t).length ≤ 1000001 := fun hs i hi => by
    unfold spansF
    refine Nat.le_trans (spL_len _) ?_
    rw [nev_get hi]
    have := hs.evs _ (List.getElem_mem hi); omega
  have hsf : ∀ i : Nat, p = i → spansF ps p.toNat t = spansF ps i t := fun i e => by subst e; rfl
  generalize manyF [t] = mh at *
  generalize lclF ps p 0 t = e at *
  obtain ⟨k, n, q0, q, s, l⟩ := t
  simp only [aPd_mk, List.map_cons, List.map_nil] at *
  cases hbb : bigF ps with
  | true =>
    rw [hbb] at hbig
    refine PC.enter 50 [.tmp 6] [3, 5, 16] Go.Proofs.Tryz.func3 rfl rfl rfl rfl rfl (by simp) (AWp.of ?_); simp only [go_sem]
    repeat (first | ((with_reducible refine AWp.ofC ?_ ?_); (focus exact rfl); simp only [go_sem]) | ((with_reducible refine an ?_ ?_); focus exact Au))
    repeat ((with_reducible refine an ?_ ?_); focus exact As)
    refine (haw).val.use ?_; simp only [go_sem]
    repeat (first | ((with_reducible refine AWp.ofC ?_ ?_); (focus exact rfl); simp only [go_sem]) | ((with_reducible refine an ?_ ?_); focus exact Au))
    repeat ((with_reducible refine an ?_ ?_); focus exact As)
    refine (hbig).val.use ?_; simp only [go_sem]
    repeat ((with_reducible refine an ?_ ?_); focus exact As)
    refine GCall.use (ab true) (fun g => g.elim) ?_
    simp only [go_sem]
    repeat (first | ((with_reducible refine AWp.ofC ?_ ?_); (focus exact rfl); simp only [go_sem]) | ((with_reducible refine an ?_ ?_); focus exact Au))
    refine ret_eq ?_; simp only [go_sem]
  | false =>
    rw [hbb] at hbig
    have hs := hsm hbb
    cases mh with
    | true =>
      refine PC.enter 50 [.tmp 6] [3, 5, 16] Go.Proofs.Tryz.func3 rfl rfl rfl rfl rfl (by simp) (AWp.of ?_); simp only [go_sem]
      repeat (first | ((with_reducible refine AWp.ofC ?_ ?_); (focus exact rfl); simp only [go_sem]) | ((with_reducible refine an ?_ ?_); focus exact Au))
      repeat ((with_reducible refine an ?_ ?_); focus exact As)
      refine (haw).val.use ?_; simp only [go_sem]
      repeat (first | ((with_reducible refine AWp.ofC ?_ ?_); (focus exact rfl); simp only [go_sem]) | ((with_reducible refine an ?_ ?_); focus exact Au))
      repeat ((with_reducible refine an ?_ ?_); focus exact As)
      refine (hbig).val.use ?_; simp only [go_sem]
      repeat ((with_reducible refine an ?_ ?_); focus exact As)
      refine GCall.use (ab true) (fun _ => ⟨At, (hhu).val.use ⟨rfl, rfl⟩⟩) ?_; simp only [go_sem]
      repeat ((with_reducible refine an ?_ ?_); focus exact As)
      repeat (first | ((with_reducible refine AWp.ofC ?_ ?_); (focus exact rfl); simp only [go_sem]) | ((with_reducible refine an ?_ ?_); focus exact Au))
      refine ret_eq ?_; simp only [go_sem]
    | false =>
      have hz := hz rfl
      have hS := hS hs hz
      have hF := hF hs hz
      by_cases he : e = 0
      · obtain ⟨i, rfl, hi⟩ := hp0 he
        have hR := hR hs hz i rfl he
        have hlen := hlen hs i hi
        rw [if_pos he, hsf i rfl] at hS
        subst he
        generalize spansF ps i (.mk k n q0 q s l) = S at *
        have hsame := same_st S (by omega)
        refine PC.enter 50 [.tmp 6] [3, 5, 16] Go.Proofs.Tryz.func3 rfl rfl rfl rfl rfl (by simp) (AWp.of ?_); simp only [go_sem]
        repeat (first | ((with_reducible refine AWp.ofC ?_ ?_); (focus exact rfl); simp only [go_sem]) | ((with_reducible refine an ?_ ?_); focus exact Au))
        repeat ((with_reducible refine an ?_ ?_); focus exact As)
        refine (haw).val.use ?_; simp only [go_sem]
        repeat (first | ((with_reducible refine AWp.ofC ?_ ?_); (focus exact rfl); simp only [go_sem]) | ((with_reducible refine an ?_ ?_); focus exact Au))
        repeat ((with_reducible refine an ?_ ?_); focus exact As)
        refine (hbig).val.use ?_; simp only [go_sem]
        repeat ((with_reducible refine an ?_ ?_); focus exact As)
        refine GCall.use (ab false) (fun _ => ⟨At, (hhu).val.use ⟨rfl, rfl⟩⟩) ?_; simp only [go_sem]
        repeat ((with_reducible refine an ?_ ?_); focus exact As)
        repeat (first | ((with_reducible refine AWp.ofC ?_ ?_); (focus exact rfl); simp only [go_sem]) | ((with_reducible refine an ?_ ?_); focus exact Au))
        repeat ((with_reducible refine an ?_ ?_); focus exact As)
        refine (hS).val.use ?_; simp only [go_sem]
        repeat (first | ((with_reducible refine AWp.ofC ?_ ?_); (focus exact rfl); simp only [go_sem]) | ((with_reducible refine an ?_ ?_); focus exact Au))
        repeat ((with_reducible refine an ?_ ?_); focus exact As)
        refine (hF).val.use ?_; simp only [go_sem]
        repeat (first | ((with_reducible refine AWp.ofC ?_ ?_); (focus exact rfl); simp only [go_sem]) | ((with_reducible refine an ?_ ?_); focus exact Au))
        repeat ((with_reducible refine an ?_ ?_); focus exact As)
        refine GCall.use (.sl 3 (S.map aStp)) (fun _ => ⟨At, (hR).val.use ⟨rfl, rfl⟩⟩) ?_; simp only [go_sem]
        repeat ((with_reducible refine an ?_ ?_); focus exact As)
        repeat ((with_reducible refine an ?_ ?_); focus exact As)
        refine GCall.use (ab true) (fun _ => ⟨At, (hsame).val.use ⟨rfl, rfl⟩⟩) ?_; simp only [go_sem]
        repeat ((with_reducible refine an ?_ ?_); focus exact As)
        repeat (first | ((with_reducible refine AWp.ofC ?_ ?_); (focus exact rfl); simp only [go_sem]) | ((with_reducible refine an ?_ ?_); focus exact Au))
        refine ret_eq ?_; simp only [go_sem]
      · rw [if_neg he] at hS
        refine PC.enter 50 [.tmp 6] [3, 5, 16] Go.Proofs.Tryz.func3 rfl rfl rfl rfl rfl (by simp) (AWp.of ?_); simp only [go_sem]
        repeat (first | ((with_reducible refine AWp.ofC ?_ ?_); (focus exact rfl); simp only [go_sem]) | ((with_reducible refine an ?_ ?_); focus exact Au))
        repeat ((with_reducible refine an ?_ ?_); focus exact As)
        refine (haw).val.use ?_; simp only [go_sem]
        repeat (first | ((with_reducible refine AWp.ofC ?_ ?_); (focus exact rfl); simp only [go_sem]) | ((with_reducible refine an ?_ ?_); focus exact Au))
        repeat ((with_reducible refine an ?_ ?_); focus exact As)
        refine (hbig).val.use ?_; simp only [go_sem]
        repeat ((with_reducible refine an ?_ ?_); focus exact As)
        refine GCall.use (ab false) (fun _ => ⟨At, (hhu).val.use ⟨rfl, rfl⟩⟩) ?_; simp only [go_sem]
        repeat ((with_reducible refine an ?_ ?_); focus exact As)
        repeat (first | ((with_reducible refine AWp.ofC ?_ ?_); (focus exact rfl); simp only [go_sem]) | ((with_reducible refine an ?_ ?_); focus exact Au))
        repeat ((with_reducible refine an ?_ ?_); focus exact As)
        refine (hS).val.use ?_; simp only [go_sem]
        repeat (first | ((with_reducible refine AWp.ofC ?_ ?_); (focus exact rfl); simp only [go_sem]) | ((with_reducible refine an ?_ ?_); focus exact Au))
        repeat ((with_reducible refine an ?_ ?_); focus exact As)
        refine (hF).val.use ?_; simp only [go_sem]
        repeat (first | ((with_reducible refine AWp.ofC ?_ ?_); (focus exact rfl); simp only [go_sem, he]) | ((with_reducible refine an ?_ ?_); focus exact Au))
        refine ret_eq ?_; simp only [go_sem]
        rfl
end Go.AL
end
