/- Texts of this claim's proof: WXp, WXr, AlRng, WBig, WPw3, WHu, WXl, AlBr, AlBr2, AlBr3, WRt, WRt2, AlBr4. No condition. -/
import Derived.Test.YtceeooppejjliaaGreatDoorM11
import Derived.Test.YtceeooppejjliaaGreatDoorM3
import Derived.Test.YtceeooppejjliaaGreatDoorM6
import Derived.Test.YtceeooppejjliaaGreatDoorM7
import Derived.Test.YtceeooppejjliaaGreatDoorM4
import Derived.ProofKit
import Derived.Lib.LaidTab
section
/- The stretches of states: the package conjunctive and the reference of layer 37. No condition. -/
namespace Go.AL
open Go Go.RowKit
set_option maxRecDepth 4000
noncomputable def spansF (ps : List Pr) (p : Nat) (t : Pd) : List Stp := spL (fun k : Nat => lclT ps p t k) p (nev ps p + 1)
noncomputable def aSpansR (ps : List Pr) (p : Int) (t : Pd) : AV := if lclF ps p 0 t = 0 then .tup [.sl 3 ((spansF ps p.toNat t).map aStp), ai 0] else .tup [.sl 3 [], ai (lclF ps p 0 t)]
theorem last_get (d : List Stp) (x : Stp) : ((d ++ [x]).map aStp).getD (((d ++ [x]).map aStp).length - 1) .any = aStp x := by
  rw [List.length_map, List.getD_eq_getElem?_getD, List.getElem?_map]
  simp
theorem last_set (d : List Stp) (x y : Stp) : ((d ++ [x]).map aStp).set (((d ++ [x]).map aStp).length - 1) (aStp y) = (d ++ [y]).map aStp := by
  rw [List.length_map, List.map_append, List.map_append]
  simp
theorem conj_Spans (ps : List Pr) (hs : Sm ps) (p : Int) (t : Pd) (hz : szF t ≤ 1000000) : PC Go.Proofs.Tryz.prog 14 [aTr ps, ai p, aPd t] (aSpansR ps p t) := by
  have h1 := evaluate_Truths ps hs p t hz
  have hl := hs.procs
  unfold aTruths at h1
  unfold aSpansR
  by_cases he : lclF ps p 0 t = 0
  · rw [if_pos he] at h1 ⊢
    have hp0 : 0 ≤ p := by
      unfold lclF at he
      split at he
      · rename_i h; exact absurd he h
      · split at he
        · cases he
        · rename_i h; omega
    obtain ⟨i, rfl⟩ : ∃ i : Nat, p = i := ⟨p.toNat, by omega⟩
    rw [Int.toNat_natCast] at h1 ⊢
    obtain ⟨_, hp, _, _, _, _⟩ := lcl_ok he
    have hel := hs.evs _ (List.getElem_mem hp)
    unfold spansF
    rw [nev_get hp]
    rw [truthsF_nat hp, List.map_map] at h1
    obtain ⟨b, hbd⟩ : ∃ b : Nat → Bool, b = fun k : Nat => lclT ps i t k := ⟨_, rfl⟩
    have hT : ∀ k, k < ps[i].evs.length + 1 → ((List.range (ps[i].evs.length + 1)).map (ab ∘ fun (k : Nat) => lclT ps i t k)).getD k .any = ab (b k) := fun k hk => by rw [hbd]; exact map_range_getD hk _
    have hTl : ((List.range (ps[i].evs.length + 1)).map (ab ∘ fun (k : Nat) => lclT ps i t k)).length = ps[i].evs.length + 1 := by simp
    generalize (List.range (ps[i].evs.length + 1)).map (ab ∘ fun (k : Nat) => lclT ps i t k) = T at *
    rw [← hbd]
    clear hbd
    obtain ⟨k0, n, pp, q, s, l⟩ := t
    simp only [aPd_mk] at *
    refine PC.enter 59 [.tmp 6, .tmp 7] [3, 5, 35] Go.Proofs.Tryz.func14 rfl rfl rfl rfl rfl (by simp) (AWp.of ?_); simp only [go_sem]
    repeat (first | ((with_reducible refine AWp.ofC ?_ ?_); (focus exact rfl); simp only [go_sem]) | ((with_reducible refine an ?_ ?_); focus exact Au))
    repeat ((with_reducible refine an ?_ ?_); focus exact As)
    refine (h1).val.use ?_; simp only [go_sem]
    repeat (first | ((with_reducible refine AWp.ofC ?_ ?_); (focus exact rfl); simp only [go_sem]) | ((with_reducible refine an ?_ ?_); focus exact Au))
    refine AWp.range' T.length [10] [1, 8, 23, 24] (fun k vs L => ∃ v, vs = [v] ∧ AppSt 77 3 ((spL b i k).map aStp) v L) (by omega) rfl rfl rfl ⟨anil, rfl, .nil⟩ ?_ ?_
    · rintro k vs L' hk - ⟨v, rfl, hA⟩
      have g0 := hT k (by omega)
      have g1 := hT (k - 1) (by omega)
      have gk : ((k : Int) - 1).toNat = k - 1 := by omega
      have hfo := hA.fo
      cases hbk : b k with
      | false =>
        rw [hbk] at g0
        rw [spL_no hbk]
        simp only [go_sem]
        repeat (first | ((with_reducible refine AWp.ofC ?_ ?_); (focus exact rfl); simp only [go_sem, g0, hTl, hfo]) | ((with_reducible refine an ?_ ?_); focus exact Au))
        exact ⟨_, List.Sublist.refl _, v, rfl, hA⟩
      | true =>
        rw [hbk] at g0
        simp only [go_sem]
        repeat (first | ((with_reducible refine AWp.ofC ?_ ?_); (focus exact rfl); simp only [go_sem, g0, g1, gk, hTl, hfo]) | ((with_reducible refine an ?_ ?_); focus exact Au))
        refine ⟨fun h2 h3 => ?_, fun h2 => ?_⟩
        · obtain ⟨d, f, e1, e2⟩ := spL_on (b := b) (p := i) (k := k) hbk (by rw [decide_eq_true (by omega), h3]; rfl)
          rw [e1] at hA
          rw [e2]
          have gl : ((d ++ [(i, f, k - 1)]).map aStp).getD (((d ++ [(i, f, k - 1)]).map aStp).length - 1) .any = .agg [ai i, ai f, ai ((k - 1 : Nat) : Int)] := last_get d (i, f, k - 1)
          have gs : ((d ++ [(i, f, k - 1)]).map aStp).set (((d ++ [(i, f, k - 1)]).map aStp).length - 1) (.agg [ai i, ai f, ai k]) = (d ++ [(i, f, k)]).map aStp := last_set d (i, f, k - 1) (i, f, k)
          have hyl : 1 ≤ ((d ++ [(i, f, k - 1)]).map aStp).length := by simp
          have hyk := spL_len (b := b) (p := i) k
          rw [e1, ← List.length_map (f := aStp)] at hyk
          have hll : ((d ++ [(i, f, k)]).map aStp).length = ((d ++ [(i, f, k - 1)]).map aStp).length := by simp
          generalize ((d ++ [(i, f, k - 1)]).map aStp) = ys at *
          generalize ((d ++ [(i, f, k)]).map aStp) = zs at *
          have gn : ((ys.length : Int) - 1).toNat = ys.length - 1 := by omega
          rcases hA.inv with ⟨e3, _, _⟩ | ⟨bq, cap, rfl, rfl⟩
          · rw [e3] at hyl; simp at hyl
          · repeat (first | ((with_reducible refine AWp.ofC ?_ ?_); (focus exact rfl); simp only [go_sem]) | ((with_reducible refine an ?_ ?_); focus exact Au))
            simp only [go_sem, gl, gn, gs]
            repeat ((with_reducible refine an ?_ ?_); focus exact As)
            refine ⟨_, List.Sublist.refl _, _, rfl, ?_⟩
            rw [← hll]
            exact .row _ _ _
        · have e0 : (decide (0 < k) && b (k - 1)) = false := by
            by_cases h3 : 0 < k
            · rw [decide_eq_true h3, Bool.true_and]; simpa using h2 (by omega)
            · rw [decide_eq_false h3]; rfl
          rw [spL_new hbk e0, List.map_append]
          have ea : [(i, k, k)].map aStp = [.agg [ai i, ai k, ai k]] := rfl
          rw [ea]
          have hyl := spL_len (b := b) (p := i) k
          rw [← List.length_map (f := aStp)] at hyl
          generalize (spL b i k).map aStp = ys at *
          rcases hA.inv with ⟨e3, rfl, rfl⟩ | ⟨bq, cap, rfl, rfl⟩
          · subst e3
            simp only [go_sem]
            repeat ((with_reducible refine an ?_ ?_); focus exact As)
            intro b' cap' _
            refine ⟨_, List.Sublist.refl _, _, rfl, ?_⟩
            exact .row _ _ _
          · simp only [go_sem]
            repeat ((with_reducible refine an ?_ ?_); focus exact As)
            intro b' cap' _
            refine ⟨_, List.Sublist.refl _, _, rfl, ?_⟩
            have := AppSt.row (t := 77) (k := 3) b' (ys ++ [.agg [ai i, ai k, ai k]]) cap'
            simpa using this
    · rintro vs L' - ⟨v, rfl, hA⟩
      rw [hTl] at hA
      have hfo := hA.fo
      rcases hA.inv with ⟨e3, rfl, rfl⟩ | ⟨bq, cap, rfl, rfl⟩
      · simp only [go_sem]
        repeat (first | ((with_reducible refine AWp.ofC ?_ ?_); (focus exact rfl); simp only [go_sem]) | ((with_reducible refine an ?_ ?_); focus exact Au))
        refine ret_view [] ?_; simp only [go_sem]
        rw [e3]
        exact .mkTup (Vws.cons (.nil 3) (Vws.refl _))
      · simp only [go_sem]
        repeat (first | ((with_reducible refine AWp.ofC ?_ ?_); (focus exact rfl); simp only [go_sem]) | ((with_reducible refine an ?_ ?_); focus exact Au))
        refine ret_view [true] ?_; simp only [go_sem]
        exact .mkTup (Vws.cons (Vw.ofLs (if_pos rfl) (List.length_map _).symm) (Vws.refl _))
  · rw [if_neg he] at h1 ⊢
    generalize lclF ps p 0 t = e at *
    obtain ⟨k0, n, pp, q, s, l⟩ := t
    simp only [aPd_mk] at *
    refine PC.enter 59 [.tmp 6, .tmp 7] [3, 5, 35] Go.Proofs.Tryz.func14 rfl rfl rfl rfl rfl (by simp) (AWp.of ?_); simp only [go_sem]
    repeat (first | ((with_reducible refine AWp.ofC ?_ ?_); (focus exact rfl); simp only [go_sem]) | ((with_reducible refine an ?_ ?_); focus exact Au))
    repeat ((with_reducible refine an ?_ ?_); focus exact As)
    refine (h1).val.use ?_; simp only [go_sem]
    repeat (first | ((with_reducible refine AWp.ofC ?_ ?_); (focus exact rfl); simp only [go_sem, he]) | ((with_reducible refine an ?_ ?_); focus exact Au))
    refine ret_view [] ?_; simp only [go_sem]
    exact .mkTup (Vws.cons (.nil 3) (Vws.refl _))
end Go.AL
end
section
/- The truths and the stretches of the references. No condition. -/
namespace Go.AL
open Go Go.RowKit
set_option maxRecDepth 4000
theorem ref29_Truths (ps : List Pr) (hs : Sm ps) (p : Nat) (t : Pd) (hz : szF t ≤ 1000000) (he : lclF ps p 0 t = 0) : PC Go.Proofs.Tryz.prog 66 [aTr ps, ai p, aPd t] (.sl 1 ((truthsF ps p t).map ab)) := by
  have hl := hs.procs
  obtain ⟨hc, hp, _, _, h9, hlc⟩ := lcl_ok he
  have hel := hs.evs _ (List.getElem_mem hp)
  have hgp := getD_map (f := aPr) hp
  have hst := fun (k : Nat) hk => ref29_Local ps hs p k hp hk t hz hc h9 hlc
  rw [truthsF_nat hp, List.map_map]
  have hy : ∀ k, ((List.range k).map fun (k : Nat) => ab (lclT ps p t k)).length = k := fun k => by simp
  have hys : ∀ k, ((List.range (k + 1)).map fun (k : Nat) => ab (lclT ps p t k)) = ((List.range k).map fun (k : Nat) => ab (lclT ps p t k)) ++ [ab (lclT ps p t k)] := fun k => by rw [List.range_succ, List.map_append]; rfl
  have hfin : (List.range (ps[p].evs.length + 1)).map (ab ∘ fun (k : Nat) => lclT ps p t k) = (List.range (ps[p].evs.length + 1)).map fun (k : Nat) => ab (lclT ps p t k) := rfl
  rw [hfin]
  obtain ⟨k0, n, pp, q, s, l⟩ := t
  simp only [aPd_mk] at *
  generalize hY : (fun k : Nat => (List.range k).map fun (j : Nat) => ab (lclT ps p (.mk k0 n pp q s l) j)) = Y at *
  have hYk : ∀ k, ((List.range k).map fun (j : Nat) => ab (lclT ps p (.mk k0 n pp q s l) j)) = Y k := fun k => by rw [← hY]
  simp only [hYk] at hy hys ⊢
  refine PC.enter 29 [.tmp 6] [3, 5, 26] Go.Proofs.Tryz.func66 rfl rfl rfl rfl rfl (by simp) (AWp.of ?_); simp only [go_sem]
  repeat (first | ((with_reducible refine AWp.ofC ?_ ?_); (focus exact rfl); simp only [go_sem]) | ((with_reducible refine an ?_ ?_); focus exact Au))
  refine AWp.block (AWp.count 8 (ps[p].evs.length + 1) [7] [1, 3, 5] (fun k vs L => ∃ v, vs = [v] ∧ AppSt 4 1 (Y k) v L) rfl rfl ⟨anil, rfl, by rw [← hY]; exact .nil⟩ ?_)
  rintro k vs L' hk - ⟨v, rfl, hA⟩
  have hyl := hy k
  have hfo := hA.fo
  have hys := hys k
  have hfin := hy (ps[p].evs.length + 1)
  by_cases hke : k = ps[p].evs.length + 1
  · have hn : ¬ (k : Int) ≤ ps[p].evs.length := by omega
    rw [← hke] at *
    generalize Y k = ys at *
    rcases hA.inv with ⟨e1, rfl, rfl⟩ | ⟨b', cap, rfl, rfl⟩
    · rw [e1] at hyl; simp at hyl; omega
    · simp only [go_sem]
      repeat (first | ((with_reducible refine AWp.ofC ?_ ?_); (focus exact rfl); simp only [go_sem, hgp, hn]) | ((with_reducible refine an ?_ ?_); focus exact Au))
      refine ret_view [true] ?_; simp only [go_sem]
      exact Vw.ofLs (if_pos rfl) rfl
  · have hst := hst k (by omega)
    have hn : (k : Int) ≤ ps[p].evs.length := by omega
    generalize Y k = ys at *
    generalize lclT ps p (.mk k0 n pp q s l) k = b at *
    rcases hA.inv with ⟨e1, rfl, rfl⟩ | ⟨b', cap, rfl, rfl⟩
    · simp only [go_sem]
      repeat (first | ((with_reducible refine AWp.ofC ?_ ?_); (focus exact rfl); simp only [go_sem, hgp, hn]) | ((with_reducible refine an ?_ ?_); focus exact Au))
      repeat ((with_reducible refine an ?_ ?_); focus exact As)
      refine (hst).val.use ?_; simp only [go_sem]
      repeat ((with_reducible refine an ?_ ?_); focus exact As)
      intro b' cap' _
      repeat (first | ((with_reducible refine AWp.ofC ?_ ?_); (focus exact rfl); simp only [go_sem]) | ((with_reducible refine an ?_ ?_); focus exact Au))
      refine ⟨_, List.Sublist.refl _, _, rfl, ?_⟩
      rw [hys, e1]
      exact .row _ _ _
    · simp only [go_sem]
      repeat (first | ((with_reducible refine AWp.ofC ?_ ?_); (focus exact rfl); simp only [go_sem, hgp, hn]) | ((with_reducible refine an ?_ ?_); focus exact Au))
      repeat ((with_reducible refine an ?_ ?_); focus exact As)
      refine (hst).val.use ?_; simp only [go_sem]
      repeat ((with_reducible refine an ?_ ?_); focus exact As)
      intro b' cap' _
      repeat (first | ((with_reducible refine AWp.ofC ?_ ?_); (focus exact rfl); simp only [go_sem]) | ((with_reducible refine an ?_ ?_); focus exact Au))
      refine ⟨_, List.Sublist.refl _, _, rfl, ?_⟩
      rw [hys]
      have := AppSt.row (t := 4) (k := 1) b' (ys ++ [ab b]) cap'
      simpa using this
theorem ref37_Spans (ps : List Pr) (hs : Sm ps) (i : Nat) (t : Pd) (hz : szF t ≤ 1000000) (he : lclF ps i 0 t = 0) : PC Go.Proofs.Tryz.prog 17 [aTr ps, ai i, aPd t] (.sl 3 ((spansF ps i t).map aStp)) := by
  have h1 := ref29_Truths ps hs i t hz he
  have hl := hs.procs
  obtain ⟨_, hp, _, _, _, _⟩ := lcl_ok he
  have hel := hs.evs _ (List.getElem_mem hp)
  unfold spansF
  rw [nev_get hp]
  rw [truthsF_nat hp, List.map_map] at h1
  obtain ⟨b, hbd⟩ : ∃ b : Nat → Bool, b = fun k : Nat => lclT ps i t k := ⟨_, rfl⟩
  have hT : ∀ k, k < ps[i].evs.length + 1 → ((List.range (ps[i].evs.length + 1)).map (ab ∘ fun (k : Nat) => lclT ps i t k)).getD k .any = ab (b k) := fun k hk => by rw [hbd]; exact map_range_getD hk _
  have hTl : ((List.range (ps[i].evs.length + 1)).map (ab ∘ fun (k : Nat) => lclT ps i t k)).length = ps[i].evs.length + 1 := by simp
  generalize (List.range (ps[i].evs.length + 1)).map (ab ∘ fun (k : Nat) => lclT ps i t k) = T at *
  rw [← hbd]
  clear hbd
  obtain ⟨k0, n, pp, q, s, l⟩ := t
  simp only [aPd_mk] at *
  have hR : spL b i (ps[i].evs.length + 1) = spL b i T.length := by rw [hTl]
  rw [hR]
  clear hR
  refine PC.enter 49 [.tmp 6] [3, 5, 46] Go.Proofs.Tryz.func17 rfl rfl rfl rfl rfl (by simp) (AWp.of ?_); simp only [go_sem]
  repeat (first | ((with_reducible refine AWp.ofC ?_ ?_); (focus exact rfl); simp only [go_sem]) | ((with_reducible refine an ?_ ?_); focus exact Au))
  repeat ((with_reducible refine an ?_ ?_); focus exact As)
  refine (h1).val.use ?_; simp only [go_sem]
  repeat (first | ((with_reducible refine AWp.ofC ?_ ?_); (focus exact rfl); simp only [go_sem]) | ((with_reducible refine an ?_ ?_); focus exact Au))
  refine AWp.block (AWp.count 9 T.length [8] [1, 7] (fun k vs L => ∃ v, vs = [v] ∧ AppSt 77 3 ((spL b i k).map aStp) v L) rfl rfl ⟨anil, rfl, .nil⟩ ?_)
  rintro k vs L' hk - ⟨v, rfl, hA⟩
  have hfo := hA.fo
  by_cases hke : k = T.length
  · have hn : ¬ (k : Int) < T.length := by omega
    rw [← hke]
    rcases hA.inv with ⟨e3, rfl, rfl⟩ | ⟨bq, cap, rfl, rfl⟩
    · simp only [go_sem]
      repeat (first | ((with_reducible refine AWp.ofC ?_ ?_); (focus exact rfl); simp only [go_sem, hn]) | ((with_reducible refine an ?_ ?_); focus exact Au))
      refine ret_view [] ?_; simp only [go_sem]
      rw [e3]
      exact .nil 3
    · simp only [go_sem]
      repeat (first | ((with_reducible refine AWp.ofC ?_ ?_); (focus exact rfl); simp only [go_sem, hn]) | ((with_reducible refine an ?_ ?_); focus exact Au))
      refine ret_view [true] ?_; simp only [go_sem]
      exact Vw.ofLs (if_pos rfl) (List.length_map _).symm
  · have hn : (k : Int) < T.length := by omega
    have g0 := hT k (by omega)
    have g1 := hT (k - 1) (by omega)
    have gk : ((k : Int) - 1).toNat = k - 1 := by omega
    have hyk := spL_len (b := b) (p := i) k
    cases hbk : b k with
    | false =>
      rw [hbk] at g0
      have hno := spL_no (b := b) (p := i) hbk
      simp only [go_sem]
      repeat (first | ((with_reducible refine AWp.ofC ?_ ?_); (focus exact rfl); simp only [go_sem, g0, hn, hfo]) | ((with_reducible refine an ?_ ?_); focus exact Au))
      refine ⟨_, List.Sublist.refl _, v, rfl, ?_⟩
      rw [hno]
      exact hA
    | true =>
      rw [hbk] at g0
      simp only [go_sem]
      repeat (first | ((with_reducible refine AWp.ofC ?_ ?_); (focus exact rfl); simp only [go_sem, g0, g1, gk, hn, hfo]) | ((with_reducible refine an ?_ ?_); focus exact Au))
      refine ⟨fun h2 h3 => ?_, fun h2 => ?_⟩
      · obtain ⟨d, f, e1, e2⟩ := spL_on (b := b) (p := i) (k := k) hbk (by rw [decide_eq_true (by omega), h3]; rfl)
        rw [e1] at hA
        have gl : ((d ++ [(i, f, k - 1)]).map aStp).getD (((d ++ [(i, f, k - 1)]).map aStp).length - 1) .any = .agg [ai i, ai f, ai ((k - 1 : Nat) : Int)] := last_get d (i, f, k - 1)
        have gs : ((d ++ [(i, f, k - 1)]).map aStp).set (((d ++ [(i, f, k - 1)]).map aStp).length - 1) (.agg [ai i, ai f, ai k]) = (d ++ [(i, f, k)]).map aStp := last_set d (i, f, k - 1) (i, f, k)
        have hyl : 1 ≤ ((d ++ [(i, f, k - 1)]).map aStp).length := by simp
        rw [e1, ← List.length_map (f := aStp)] at hyk
        have hll : ((d ++ [(i, f, k)]).map aStp).length = ((d ++ [(i, f, k - 1)]).map aStp).length := by simp
        generalize ((d ++ [(i, f, k - 1)]).map aStp) = ys at *
        have gn : ((ys.length : Int) - 1).toNat = ys.length - 1 := by omega
        rcases hA.inv with ⟨e3, _, _⟩ | ⟨bq, cap, rfl, rfl⟩
        · rw [e3] at hyl; simp at hyl
        · repeat (first | ((with_reducible refine AWp.ofC ?_ ?_); (focus exact rfl); simp only [go_sem]) | ((with_reducible refine an ?_ ?_); focus exact Au))
          simp only [go_sem, gl, gn, gs]
          repeat ((with_reducible refine an ?_ ?_); focus exact As)
          repeat (first | ((with_reducible refine AWp.ofC ?_ ?_); (focus exact rfl); simp only [go_sem]) | ((with_reducible refine an ?_ ?_); focus exact Au))
          refine ⟨_, List.Sublist.refl _, _, rfl, ?_⟩
          rw [e2, ← hll]
          exact .row _ _ _
      · have e0 : (decide (0 < k) && b (k - 1)) = false := by
          by_cases h3 : 0 < k
          · rw [decide_eq_true h3, Bool.true_and]; simpa using h2 (by omega)
          · rw [decide_eq_false h3]; rfl
        have hne := spL_new (b := b) (p := i) hbk e0
        have ea : [(i, k, k)].map aStp = [.agg [ai i, ai k, ai k]] := rfl
        rw [← List.length_map (f := aStp)] at hyk
        generalize hys : (spL b i k).map aStp = ys at *
        rcases hA.inv with ⟨e3, rfl, rfl⟩ | ⟨bq, cap, rfl, rfl⟩
        · subst e3
          repeat (first | ((with_reducible refine AWp.ofC ?_ ?_); (focus exact rfl); simp only [go_sem]) | ((with_reducible refine an ?_ ?_); focus exact Au))
          simp only [go_sem]
          repeat ((with_reducible refine an ?_ ?_); focus exact As)
          intro b' cap' _
          repeat (first | ((with_reducible refine AWp.ofC ?_ ?_); (focus exact rfl); simp only [go_sem]) | ((with_reducible refine an ?_ ?_); focus exact Au))
          refine ⟨_, List.Sublist.refl _, _, rfl, ?_⟩
          rw [hne, List.map_append, hys, ea]
          exact .row _ _ _
        · repeat (first | ((with_reducible refine AWp.ofC ?_ ?_); (focus exact rfl); simp only [go_sem]) | ((with_reducible refine an ?_ ?_); focus exact Au))
          simp only [go_sem]
          repeat ((with_reducible refine an ?_ ?_); focus exact As)
          intro b' cap' _
          repeat (first | ((with_reducible refine AWp.ofC ?_ ?_); (focus exact rfl); simp only [go_sem]) | ((with_reducible refine an ?_ ?_); focus exact Au))
          refine ⟨_, List.Sublist.refl _, _, rfl, ?_⟩
          rw [hne, List.map_append, hys, ea]
          have := AppSt.row (t := 77) (k := 3) b' (ys ++ [.agg [ai i, ai k, ai k]]) cap'
          simpa using this
end Go.AL
end
section
/- The layer AL: ranges over slices of any length. No condition. -/
namespace Go.AL
open Go Go.RowKit
theorem AWp.range1 {C : Cfg} {id i1 i2 t s n t2 : Nat} {ty1 ty2 ty3 ty4 r1 r2 r3 : TypeId} {p1 p2 p3 : String} {a1 a2 a3 : Array Edge} {body : Code} {Q : AQ} {ρ : Env} {L : AHeap}
    (m : Nat) (ls ks : List Nat) (I : Nat → List AV → AHeap → Prop) (hm : m ≤ 9223372036854775807) (hs : get ρ s = ai 0) (hn : get ρ n = ai m) (hnk : n ∈ ks) (hsk : s ∉ ks) (hsl : s ∉ ls) (hts : t ≠ s) (htk : t ∉ ks) (h2k : t2 ∉ ks) (htl : t ∉ ls) (h2l : t2 ∉ ls)
    (h0 : I 0 (ls.map (get ρ)) L)
    (round : ∀ k vs L', k < m → vs.length = ls.length → I k vs L' → AWp C body (rangeQ id s k ls ks ρ (I (k + 1)) Q) ((s, ai k) :: lenv ls ks vs ρ) L')
    (done : ∀ vs L', vs.length = ls.length → I m vs L' → Q .normal ((s, ai m) :: lenv ls ks vs ρ) L') :
    AWp C (.block id (.loop (.seq (.region i1 #[⟨some t, .binOp .lss ty1 (.tmp s) (.tmp n) ty2, r1, p1, a1, none⟩] false) (.seq (.cond (.tmp t) .skip (.exit id)) (.seq body
      (.region i2 #[⟨some t2, .binOp .add ty3 (.tmp s) (.const (.int .i64 1)) ty4, r2, p2, a2, none⟩, ⟨some s, .move (.tmp t2), r3, p3, a3, none⟩] false)))))) Q ρ L := by
  have hnl : ∀ vs : List AV, vs.length = ls.length → get (lenv ls ks vs ρ) n = ai m := fun vs _ => by
    unfold lenv
    have hin : n ∈ (keep ks ρ).map (·.1) := by simp [keep, hnk]
    rw [get_append, if_pos hin]
    rcases get_keep ks ρ n with e | e
    · have : ∀ l : List Nat, n ∈ l → get (keep l ρ) n = get ρ n := fun l => by
        induction l with
        | nil => intro h; cases h
        | cons x r ih =>
          intro h
          simp only [keep, List.map_cons, get]
          split
          · rename_i e; rw [e]
          · rename_i e; exact ih ((List.mem_cons.1 h).resolve_left e)
      rw [this ks hnk, hn]
    · rw [e, hn]
  have hns : n ≠ s := fun e => hsk (e ▸ hnk)
  have dropT : ∀ (k : Nat) (vs : List AV) (x : AV) (i : Nat), get ((s, ai k) :: lenv ls ks vs ρ) i = .any ∨ get ((s, ai k) :: lenv ls ks vs ρ) i = get ((t, x) :: (s, ai k) :: lenv ls ks vs ρ) i := fun k vs x i => by
    by_cases hi : i = t
    · subst hi
      refine .inl ?_
      simp only [get, if_neg hts, lenv]
      rw [get_append, if_neg (by simp [keep, htk])]
      have : ∀ (l : List Nat) (v : List AV), i ∉ l → get (l.zip v) i = .any := fun l => by
        induction l with
        | nil => intro v _; rfl
        | cons x r ih =>
          intro v h
          cases v with
          | nil => rfl
          | cons y v =>
            simp only [List.zip_cons_cons, get]
            rw [if_neg (by rintro rfl; exact h List.mem_cons_self)]
            exact ih v (fun hh => h (List.mem_cons_of_mem _ hh))
      exact this ls vs htl
    · exact .inr (by simp [get, hi])
  refine AWp.block (AWp.loop (s :: ls) ks (fun vs' L' => ∃ (k : Nat) (vs : List AV), vs' = ai (k : Int) :: vs ∧ k ≤ m ∧ I k vs L') (fun vs' _ => match vs' with | .v (.int _ k) :: _ => m - k.toNat | _ => 0)
    ⟨0, _, by simp [hs], Nat.zero_le _, h0⟩ ?_)
  rintro vs' L' hl ⟨k, vs, rfl, hk, hI⟩
  have hvl : vs.length = ls.length := by simpa using hl
  -- the counter first
  refine AWp.st (ρ' := (s, ai k) :: lenv ls ks vs ρ) (L' := L') (fun w0 M A0 a w h => st_forget h fun i => ?_) ?_
  · by_cases hi : i = s
    · subst hi
      refine .inr ?_
      simp only [get, if_true, lenv]
      rw [get_append, if_neg (by simp [keep, hsk])]
      simp [get]
    · refine .inr ?_
      simp only [get, if_neg hi, lenv, List.zip_cons_cons]
      rw [get_append, get_append]
      split
      · rfl
      · simp [get, hi]
  have hget_s : get ((s, ai k) :: lenv ls ks vs ρ) s = ai k := by simp [get]
  have hget_n : get ((s, ai k) :: lenv ls ks vs ρ) n = ai m := by simp only [get, if_neg hns]; exact hnl vs hvl
  refine AWp.seq (AWp.region ?_)
  simp only [aregion, astep, aop, aval, ev, hget_s, hget_n, w2, fo, aEq, aBin, thenQ, put]
  refine ⟨by simp, ?_⟩
  refine AWp.seq (AWp.cond (t := decide ((k : Int) < m)) (by simp [ev, get]) (fun ht => ?_) (fun hf => ?_))
  · have hlt : k < m := by simpa using ht
    refine AWp.of ?_
    simp only [awp1, thenQ]
    refine AWp.st (ρ' := (s, ai k) :: lenv ls ks vs ρ) (L' := L') (fun w0 M A0 a w h => st_forget h (dropT k vs _)) ?_
    refine AWp.seq ((round k vs L' hlt hvl hI).mono ?_)
    intro e ρ' L'' hq
    cases e with
    | normal =>
      obtain ⟨g1, g2, L3, g3, g4⟩ := hq
      simp only [thenQ]
      refine AWp.region ?_
      have hi64 : I64 ((k : Int) + 1) := by unfold I64; omega
      simp only [aregion, astep, aop, aval, ev, g1, w2, fo, aEq, aBin, put, if_true, get]
      refine ⟨⟨⟨trivial, trivial⟩, trivial, hi64⟩, trivial, ?_⟩
      simp only [roundQ]
      have hks : ks.map (get ((s, ai ((k : Int) + 1)) :: (t2, ai ((k : Int) + 1)) :: ρ')) = ks.map (get ρ') := List.map_congr_left fun j hj => by
        simp only [get]; rw [if_neg (by rintro rfl; exact hsk hj), if_neg (by rintro rfl; exact h2k hj)]
      have hls : ls.map (get ((s, ai ((k : Int) + 1)) :: (t2, ai ((k : Int) + 1)) :: ρ')) = ls.map (get ρ') := List.map_congr_left fun j hj => by
        simp only [get]; rw [if_neg (by rintro rfl; exact hsl hj), if_neg (by rintro rfl; exact h2l hj)]
      refine ⟨by rw [hks]; exact g2, L3, g3, ⟨k + 1, _, ?_, hlt, g4⟩, ?_⟩
      · rw [List.map_cons, hls]
        simp only [get, if_true]
        rfl
      · simp only [List.map_cons, get, if_true]
        have : ((k : Int) + 1).toNat = k + 1 := by omega
        simp only [this, Int.toNat_natCast]
        omega
    | exit id' => simpa [thenQ, roundQ, blockQ, rangeQ] using hq
    | goto l => exact hq
    | ret => exact hq
    | panic c => exact hq
    | outgrown => exact hq
  · have hkm : k = m := by have : ¬ ((k : Int) < m) := by simpa using hf
                           omega
    subst hkm
    refine AWp.st (ρ' := (s, ai k) :: lenv ls ks vs ρ) (L' := L') (fun w0 M A0 a w h => st_forget h (dropT k vs _)) (AWp.of ?_)
    simp only [awp1, thenQ, roundQ, blockQ, if_true]
    exact done vs L' hvl hI
theorem AWp.range1' {C : Cfg} {id i1 i2 t s n t2 : Nat} {ty1 ty2 ty3 ty4 r1 r2 r3 : TypeId} {p1 p2 p3 : String} {a1 a2 a3 : Array Edge} {body : Code} {Q : AQ} {ρ : Env} {L : AHeap}
    (m : Nat) (ls ks : List Nat) (I : Nat → List AV → AHeap → Prop) (hm : m ≤ 9223372036854775807) (hs : get ρ s = ai 0) (hn : get ρ n = ai m) (hok : rOk s n t t2 ls ks = true)
    (h0 : I 0 (ls.map (get ρ)) L)
    (round : ∀ k vs L', k < m → vs.length = ls.length → I k vs L' → AWp C body (rangeQ id s k ls ks ρ (I (k + 1)) Q) ((s, ai k) :: lenv ls ks vs ρ) L')
    (done : ∀ vs L', vs.length = ls.length → I m vs L' → Q .normal ((s, ai m) :: lenv ls ks vs ρ) L') :
    AWp C (.block id (.loop (.seq (.region i1 #[⟨some t, .binOp .lss ty1 (.tmp s) (.tmp n) ty2, r1, p1, a1, none⟩] false) (.seq (.cond (.tmp t) .skip (.exit id)) (.seq body
      (.region i2 #[⟨some t2, .binOp .add ty3 (.tmp s) (.const (.int .i64 1)) ty4, r2, p2, a2, none⟩, ⟨some s, .move (.tmp t2), r3, p3, a3, none⟩] false)))))) Q ρ L := by
  simp only [rOk, Bool.and_eq_true, Bool.not_eq_true', List.contains_eq_mem, decide_eq_false_iff_not, decide_eq_true_eq, bne_iff_ne, ne_eq] at hok
  obtain ⟨⟨⟨⟨⟨⟨⟨h1, h2⟩, h3⟩, h4⟩, h5⟩, h6⟩, h7⟩, h8⟩ := hok
  exact AWp.range1 m ls ks I hm hs hn h1 h2 h3 h4 h5 h6 h7 h8 h0 round done
end Go.AL
end
section
/- Great traces; how many events there are. No condition. -/
namespace Go.AL
open Go Go.RowKit
set_option maxRecDepth 4000
def asg20 (e : Ev) : Bool := decide (20 < (e.asg.length : Int))
def bigP (x : Pr) : Bool := decide (70 < (x.evs.length : Int)) || (decide (20 < (x.vars.length : Int)) || x.evs.any asg20)
def bigF (ps : List Pr) : Bool := decide (10 < (ps.length : Int)) || ps.any bigP
theorem bigF_sm {ps : List Pr} (h : bigF ps = false) : Sm ps := by
  simp only [bigF, Bool.or_eq_false_iff, decide_eq_false_iff_not, List.any_eq_false, bigP, asg20, Bool.or_eq_true, decide_eq_true_eq, not_or, Bool.not_eq_true] at h
  obtain ⟨h1, h2⟩ := h
  exact ⟨by omega, fun p hp => by have := (h2 p hp).1; omega, fun p hp => by have := (h2 p hp).2.1; omega, fun p hp e he => by have := (h2 p hp).2.2 e he; omega⟩
end Go.AL
end
section
/- Equal trees; trees that are too great. No condition. -/
namespace Go.AL
open Go Go.RowKit
set_option maxRecDepth 4000
/-! ### Trees that are too great -/
mutual
def hugeF : Pd → Int → Int → Int
  | .mk _ _ _ _ _ l, d, c => hugeL l (d + 1) (if 40 < d then 1000 else c + 1)
def hugeL : List Pd → Int → Int → Int
  | [], _, c => c
  | x :: r, d, c => if c ≤ 300 then hugeL r d (hugeF x d c) else c
end
theorem hugeL_nil (d c : Int) : hugeL [] d c = c := by rw [hugeL]
theorem hugeL_cons (x : Pd) (r : List Pd) (d c : Int) : hugeL (x :: r) d c = if c ≤ 300 then hugeL r d (hugeF x d c) else c := by rw [hugeL]
theorem hugeF_spec (t : Pd) : ∀ d c : Int, 0 ≤ c → c ≤ 300 → c + 1 ≤ hugeF t d c ∧ hugeF t d c ≤ 1000 ∧ (hugeF t d c ≤ 300 → (c + szF t : Int) ≤ hugeF t d c) := by
  induction t using Pd.ind with
  | _ k n p q s l ih =>
  intro d c h0 h1
  rw [hugeF, szF]
  have hl : ∀ l' : List Pd, (∀ x ∈ l', x ∈ l) → ∀ c : Int, 0 ≤ c → c ≤ 1000 → c ≤ hugeL l' (d + 1) c ∧ hugeL l' (d + 1) c ≤ 1000 ∧ (hugeL l' (d + 1) c ≤ 300 → (c + szL l' : Int) ≤ hugeL l' (d + 1) c) := by
    intro l'
    induction l' with
    | nil => intro _ c h0 h1; rw [hugeL, szL]; exact ⟨by omega, h1, fun _ => by omega⟩
    | cons x r ihr =>
      intro hm c h0 h1
      rw [hugeL, szL]
      by_cases hc : c ≤ 300
      · rw [if_pos hc]
        obtain ⟨a1, a2, a3⟩ := ih x (hm x List.mem_cons_self) (d + 1) c h0 hc
        obtain ⟨b1, b2, b3⟩ := ihr (fun y hy => hm y (List.mem_cons_of_mem _ hy)) (hugeF x (d + 1) c) (by omega) a2
        exact ⟨by omega, b2, fun h => by have := b3 h; have := a3 (by omega); omega⟩
      · rw [if_neg hc]
        exact ⟨by omega, h1, fun h => absurd h hc⟩
  split
  · obtain ⟨b1, b2, b3⟩ := hl l (fun _ h => h) 1000 (by decide) (by decide)
    exact ⟨by omega, b2, fun h => by omega⟩
  · obtain ⟨b1, b2, b3⟩ := hl l (fun _ h => h) (c + 1) (by omega) (by omega)
    exact ⟨by omega, b2, fun h => by have := b3 h; omega⟩
theorem hugeL_take {l : List Pd} {d c : Int} : ∀ {i : Nat} (hi : i < l.length), hugeL (l.take (i + 1)) d c = if hugeL (l.take i) d c ≤ 300 then hugeF l[i] d (hugeL (l.take i) d c) else hugeL (l.take i) d c := by
  induction l generalizing c with
  | nil => intro i hi; simp at hi
  | cons x r ih =>
    intro i hi
    cases i with
    | zero =>
      simp only [List.take_succ_cons, List.take_zero, List.getElem_cons_zero, hugeL_cons, hugeL_nil]
    | succ i =>
      simp only [List.take_succ_cons, List.getElem_cons_succ]
      simp only [hugeL_cons]
      by_cases h : c ≤ 300
      · rw [if_pos h, if_pos h]; exact ih (by simpa using hi)
      · rw [if_neg h, if_neg h, if_neg h]
theorem hugeL_full {l : List Pd} {d c : Int} {i : Nat} (h : ¬ hugeL (l.take i) d c ≤ 300) : hugeL l d c = hugeL (l.take i) d c := by
  induction l generalizing c i with
  | nil => rw [List.take_nil]
  | cons x r ih =>
    cases i with
    | zero =>
      have e0 : hugeL [] d c = c := by rw [hugeL]
      rw [List.take_zero, e0] at h
      rw [List.take_zero, e0, hugeL, if_neg h]
    | succ i =>
      rw [List.take_succ_cons, hugeL] at *
      rw [hugeL]
      by_cases hc : c ≤ 300
      · rw [if_pos hc] at h ⊢; rw [if_pos hc]; exact ih h
      · rw [if_neg hc, if_neg hc]
def aHuge (bn bw : Nat) : AV := .clo 157 [.lp bn 1 0 0, .lp bw 1 0 0]
def Lh (bn bw : Nat) (c : Int) : AHeap := [(bw, .row 104 1 [aHuge bn bw] 1), (bn, .row 3 1 [ai c] 1)]
theorem not_huge {t : Pd} (h : ¬ 300 < hugeF t 0 0) : szF t ≤ 300 := by
  have := (hugeF_spec t 0 0 (by decide) (by decide)).2.2 (by omega)
  omega
end Go.AL
end
section
/- The law of layer 37: great traces and great trees. No condition. -/
namespace Go.AL
open Go Go.RowKit
set_option maxRecDepth 4000
theorem law37_big11 (e : Ev) : PC Go.Proofs.Tryz.prog 61 [aEv e] (ab (asg20 e)) := by
  refine PC.enter 7 [.tmp 2] [1] Go.Proofs.Tryz.func61 rfl rfl rfl rfl rfl (by simp) (AWp.of ?_); simp only [go_sem]
  repeat (first | ((with_reducible refine AWp.ofC ?_ ?_); (focus exact rfl); simp only [go_sem]) | ((with_reducible refine an ?_ ?_); focus exact Au))
  refine ret_eq ?_; simp only [go_sem]
  rfl
theorem law37_big1 (x : Pr) : PC Go.Proofs.Tryz.prog 59 [aPr x] (ab (bigP x)) := by
  refine PC.enter 18 [.tmp 2] [1] Go.Proofs.Tryz.func59 rfl rfl rfl rfl rfl (by simp) (AWp.of ?_); simp only [go_sem]
  repeat (first | ((with_reducible refine AWp.ofC ?_ ?_); (focus exact rfl); simp only [go_sem]) | ((with_reducible refine an ?_ ?_); focus exact Au))
  refine GCall.use (ab (x.evs.any asg20)) (fun hg => ⟨by have := hg; simp at this ⊢; omega, (events_containsFunc x.evs (by have := hg; simp at this; omega) _ rfl asg20 fun e _ => (law37_big11 e).val).val.use ⟨rfl, rfl⟩⟩) ?_; simp only [go_sem]
  repeat (first | ((with_reducible refine AWp.ofC ?_ ?_); (focus exact rfl); simp only [go_sem]) | ((with_reducible refine an ?_ ?_); focus exact Au))
  refine ret_eq ?_; simp only [go_sem]
  unfold bigP; rw [Bool.or_assoc]
theorem law37_big (ps : List Pr) : PC Go.Proofs.Tryz.prog 12 [aTr ps] (ab (bigF ps)) := by
  refine PC.enter 12 [.tmp 2] [1] Go.Proofs.Tryz.func12 rfl rfl rfl rfl rfl (by simp) (AWp.of ?_); simp only [go_sem]
  repeat (first | ((with_reducible refine AWp.ofC ?_ ?_); (focus exact rfl); simp only [go_sem]) | ((with_reducible refine an ?_ ?_); focus exact Au))
  refine GCall.use (ab (ps.any bigP)) (fun hg => ⟨by have := hg; simp at this ⊢; omega, (procs_containsFunc ps (by have := hg; simp at this; omega) _ rfl bigP fun e _ => (law37_big1 e).val).val.use ⟨rfl, rfl⟩⟩) ?_; simp only [go_sem]
  repeat (first | ((with_reducible refine AWp.ofC ?_ ?_); (focus exact rfl); simp only [go_sem]) | ((with_reducible refine an ?_ ?_); focus exact Au))
  refine ret_eq ?_; simp only [go_sem]
  rfl
def aHugeC (bn bw : Nat) : AV := .clo 62 [.lp bn 1 0 0, .lp bw 1 0 0]
def LhC (bn bw : Nat) (c : Int) : AHeap := [(bw, .row 104 1 [aHugeC bn bw] 1), (bn, .row 3 1 [ai c] 1)]
theorem law37_huge1 (bn bw : Nat) (hb : ¬ bn = bw) (t : Pd) : ∀ d c : Int, 0 ≤ d → d ≤ 41 → 0 ≤ c → c ≤ 300 →
    MCalls Go.Proofs.Tryz.prog 62 [aPd t, ai d, .lp bn 1 0 0, .lp bw 1 0 0] (LhC bn bw c) fun r L => r = .tup [] ∧ L = LhC bn bw (hugeF t d c) := by
  induction t using Pd.ind with
  | _ k n p q s l ih =>
  intro d c d0 d1 c0 c1
  have hb' : ¬ bw = bn := fun e => hb e.symm
  have hsp : hugeF (.mk k n p q s l) d c = hugeL l (d + 1) (if 40 < d then 1000 else c + 1) := by rw [hugeF]
  unfold LhC aHugeC at *
  refine MCalls.enter' 31 [] [4] Go.Proofs.Tryz.func62 rfl rfl rfl rfl rfl (by simp) (AWp.of ?_); simp only [go_sem]
  generalize hugeF (.mk k n p q s l) d c = z at *
  repeat ((with_reducible refine an ?_ ?_); focus exact As)
  refine AWp.of ?_; simp only [go_sem, hb]
  repeat ((with_reducible refine an ?_ ?_); focus exact As)
  refine AWp.cut [1, 2, 3, 4] (fun vs L => vs = [ai d, .lp bn 1 0 0, .lp bw 1 0 0, .rp 6 [aPd (.mk k n p q s l)] 0 0] ∧ L = [(bw, ABlk.row 104 1 [.clo 62 [.lp bn 1 0 0, .lp bw 1 0 0]] 1), (bn, ABlk.row 3 1 [ai (if 40 < d then 1000 else c + 1)] 1)]) ?_ ?_
  · repeat (first | ((with_reducible refine AWp.ofC ?_ ?_); (focus exact rfl); simp only [go_sem, hb]) | ((with_reducible refine an ?_ ?_); focus exact Au))
    refine ⟨fun h1 => ?_, fun h1 => ?_⟩
    · repeat (first | ((with_reducible refine AWp.ofC ?_ ?_); (focus exact rfl); simp only [go_sem]) | ((with_reducible refine an ?_ ?_); focus exact Au))
      exact ⟨_, List.Sublist.refl _, by rw [if_pos h1]⟩
    · exact ⟨_, List.Sublist.refl _, by rw [if_neg h1]⟩
  rintro vs L - ⟨rfl, rfl⟩
  have hd40 : (if 40 < d then 1000 else c + 1) ≤ 300 → d ≤ 40 := by split <;> omega
  have hC : 0 ≤ (if 40 < d then 1000 else c + 1) ∧ (if 40 < d then 1000 else c + 1) ≤ 1000 := by split <;> omega
  generalize (if 40 < d then 1000 else c + 1) = C at *
  simp only [go_sem]
  repeat (first | ((with_reducible refine AWp.ofC ?_ ?_); (focus exact rfl); simp only [go_sem]) | ((with_reducible refine an ?_ ?_); focus exact Au))
  refine AWp.block (AWp.count 6 l.length [] [1, 2, 3, 4] (fun i vs L => (i : Int) ≤ hugeL (l.take i) (d + 1) C ∧ C ≤ hugeL (l.take i) (d + 1) C ∧ hugeL (l.take i) (d + 1) C ≤ 1000 ∧ L = [(bw, ABlk.row 104 1 [.clo 62 [.lp bn 1 0 0, .lp bw 1 0 0]] 1), (bn, ABlk.row 3 1 [ai (hugeL (l.take i) (d + 1) C)] 1)]) rfl rfl (by rw [List.take_zero, hugeL_nil]; exact ⟨by omega, by omega, by omega, rfl⟩) ?_)
  rintro i vs L hi - ⟨hi1, hi2, hi3, rfl⟩
  have hfull := fun h => hugeL_full (l := l) (d := d + 1) (c := C) (i := i) h
  have htk := fun (h : i < l.length) => hugeL_take (l := l) (d := d + 1) (c := C) h
  have hend : i = l.length → hugeL (l.take i) (d + 1) C = hugeL l (d + 1) C := fun h => by rw [h, List.take_length]
  generalize hugeL (l.take i) (d + 1) C = ci at *
  simp only [go_sem]
  repeat (first | ((with_reducible refine AWp.ofC ?_ ?_); (focus exact rfl); simp only [go_sem, hb]) | ((with_reducible refine an ?_ ?_); focus exact Au))
  refine ⟨fun h4 h5 => ?_, fun h4 => ?_⟩
  · have hil : i < l.length := by omega
    have hgi := getD_map (f := aPd) hil
    have hch := ih l[i] (List.getElem_mem hil) (d + 1) ci (by omega) (by omega) (by omega) h5
    have htk := htk hil
    rw [if_pos h5] at htk
    obtain ⟨g1, g2, _⟩ := hugeF_spec l[i] (d + 1) ci (by omega) h5
    generalize hugeF l[i] (d + 1) ci = cn at *
    generalize l[i] = x at *
    obtain ⟨k2, n2, p2, q2, s2, l2⟩ := x
    simp only [aPd_mk] at hgi hch
    refine AWp.seq (AWp.block ?_)
    refine AWp.mix mixed [1, 2, 3, 4, 5, 6, 7] (.step 0 (.step 8 .done .done) .done) (by kernel_rfl) ?_; simp only [go_sem, hgi, hb']
    repeat ((with_reducible refine an ?_ ?_); focus exact As)
    refine (MCalls.clo hch).mono ?_
    rintro r L ⟨rfl, rfl⟩
    simp only [go_sem]
    repeat (first | ((with_reducible refine AWp.ofC ?_ ?_); (focus exact rfl); simp only [go_sem]) | ((with_reducible refine an ?_ ?_); focus exact Au))
    exact ⟨_, List.Sublist.refl _, by rw [htk]; omega, by rw [htk]; omega, by rw [htk]; exact g2, by rw [htk]⟩
  · repeat (first | ((with_reducible refine AWp.ofC ?_ ?_); (focus exact rfl); simp only [go_sem]) | ((with_reducible refine an ?_ ?_); focus exact Au))
    have hz : z = ci := by
      rw [hsp]
      by_cases e : ci ≤ 300
      · have : ¬ (i : Int) < l.length := fun h => h4 h e
        rw [hend (by omega)]
      · exact hfull e
    refine ret_own ?_
    simp only [go_sem]
    rw [hz]
/-- Some tree is too great, or there are too many. -/
def manyF (ts : List Pd) : Bool := ts.any (fun t => decide (300 < hugeF t 0 0)) || decide (10 < ts.length)
theorem many_size {ts : List Pd} (h : manyF ts = false) : ts.length ≤ 10 ∧ ∀ t ∈ ts, szF t ≤ 300 := by
  unfold manyF at h
  simp only [Bool.or_eq_false_iff, List.any_eq_false, decide_eq_true_eq, decide_eq_false_iff_not] at h
  exact ⟨by omega, fun t ht => not_huge (h.1 t ht)⟩
theorem law37_huge (ts : List Pd) (htl : ts.length ≤ 9223372036854775807) : PC Go.Proofs.Tryz.prog 13 [.sl 6 (ts.map aPd)] (ab (manyF ts)) := by
  have hw := fun (t : Pd) bn bw (hb : ¬ bn = bw) => law37_huge1 bn bw hb t 0 0 (by decide) (by decide) (by decide) (by decide)
  have h1 : ∀ i (hi : i < ts.length), 300 < hugeF ts[i] 0 0 → manyF ts = true := fun i hi h => by
    unfold manyF; rw [List.any_eq_true.2 ⟨_, List.getElem_mem hi, decide_eq_true h⟩]; rfl
  have h0 : (∀ i (hi : i < ts.length), ¬ 300 < hugeF ts[i] 0 0) → manyF ts = decide (10 < (ts.length : Int)) := fun h => by
    unfold manyF
    rw [List.any_eq_false.2 fun t ht => by obtain ⟨i, hi, rfl⟩ := List.getElem_of_mem ht; simpa using h i hi]
    rw [Bool.false_or, decide_eq_decide]; omega
  generalize manyF ts = B at *
  unfold LhC aHugeC at hw
  refine PC.enter 23 [.tmp 2] [6] Go.Proofs.Tryz.func13 rfl rfl rfl rfl rfl (by simp) (AWp.of ?_); simp only [go_sem]
  repeat (first | ((with_reducible refine AWp.ofC ?_ ?_); (focus exact rfl); simp only [go_sem]) | ((with_reducible refine an ?_ ?_); focus exact Au))
  intro bn
  repeat (first | ((with_reducible refine AWp.ofC ?_ ?_); (focus exact rfl); simp only [go_sem]) | ((with_reducible refine an ?_ ?_); focus exact Au))
  intro bw hlt
  have hb : ¬ bw = bn := by omega
  have hb' : ¬ bn = bw := by omega
  repeat (first | ((with_reducible refine AWp.ofC ?_ ?_); (focus exact rfl); simp only [go_sem, hb]) | ((with_reducible refine an ?_ ?_); focus exact Au))
  repeat ((with_reducible refine an ?_ ?_); focus exact As)
  repeat (first | ((with_reducible refine AWp.ofC ?_ ?_); (focus exact rfl); simp only [go_sem, hb, hb']) | ((with_reducible refine an ?_ ?_); focus exact Au))
  refine AWp.range1' ts.length [] [0, 3, 4, 8, 9] (fun k vs L => (∃ c, L = [(bw, ABlk.row 104 1 [.clo 62 [.lp bn 1 0 0, .lp bw 1 0 0]] 1), (bn, ABlk.row 3 1 [ai c] 1)]) ∧ ∀ j (hj : j < ts.length), j < k → ¬ 300 < hugeF ts[j] 0 0) (by omega) rfl rfl rfl ⟨⟨0, rfl⟩, fun j hj h => by omega⟩ ?_ ?_
  · rintro k vs L hk - ⟨⟨c, rfl⟩, hJ⟩
    have hgt := getD_map (f := aPd) hk
    have hw := hw ts[k]
    have h1 := h1 k hk
    have hJ2 : ¬ 300 < hugeF ts[k] 0 0 → ∀ j (hj : j < ts.length), j < k + 1 → ¬ 300 < hugeF ts[j] 0 0 := fun e j hj h => by
      by_cases ej : j = k
      · subst ej; exact e
      · exact hJ j hj (by omega)
    generalize hugeF ts[k] 0 0 = z at *
    generalize ts[k] = t at *
    obtain ⟨k0, n, p, q, s, l⟩ := t
    simp only [aPd_mk] at *
    simp only [go_sem]
    repeat (first | ((with_reducible refine AWp.ofC ?_ ?_); (focus exact rfl); simp only [go_sem, hgt, hb, hb']) | ((with_reducible refine an ?_ ?_); focus exact Au))
    intro b6 _ _
    repeat (first | ((with_reducible refine AWp.ofC ?_ ?_); (focus exact rfl); simp only [go_sem, hb, hb']) | ((with_reducible refine an ?_ ?_); focus exact Au))
    refine (MCalls.clo (hw bn bw hb')).mono ?_
    rintro r L ⟨rfl, rfl⟩
    simp only [go_sem]
    repeat (first | ((with_reducible refine AWp.ofC ?_ ?_); (focus exact rfl); simp only [go_sem, hb, hb']) | ((with_reducible refine an ?_ ?_); focus exact Au))
    refine ⟨fun h4 => ?_, fun h4 => ?_⟩
    · repeat (first | ((with_reducible refine AWp.ofC ?_ ?_); (focus exact rfl); simp only [go_sem]) | ((with_reducible refine an ?_ ?_); focus exact Au))
      refine ret_eq ?_; simp only [go_sem]
      rw [h1 h4]
    · exact ⟨_, List.Sublist.refl _, ⟨_, rfl⟩, hJ2 (by omega)⟩
  · rintro vs L - ⟨⟨c, rfl⟩, hJ⟩
    simp only [go_sem]
    repeat (first | ((with_reducible refine AWp.ofC ?_ ?_); (focus exact rfl); simp only [go_sem]) | ((with_reducible refine an ?_ ?_); focus exact Au))
    refine ret_eq ?_; simp only [go_sem]
    rw [h0 fun j hj => hJ j hj hj]
end Go.AL
end
section
/- The law ConjunctiveSpans: the walk. No condition. -/
namespace Go.AL
open Go Go.RowKit
set_option maxRecDepth 4000
theorem same_st (l : List Stp) (hl : l.length ≤ 9223372036854775806) : PC Go.Proofs.Tryz.prog 16 [.sl 3 (l.map aStp), .sl 3 (l.map aStp)] (ab true) := by
  have h := ref37_SameSpans (l.map stpI) (l.map stpI) (by simpa using hl) (by simpa using hl)
  rw [decide_eq_true rfl] at h
  rw [aStp_I]
  exact h
theorem law37_ConjunctiveSpans (ps : List Pr) (p : Int) (t : Pd) : PC Go.Proofs.Tryz.prog 3 [aTr ps, ai p, aPd t] (ab true) := by
  have haw := law37_awake
  have hbig := law37_big ps
  have hhu := law37_huge [t] (by rw [List.length_singleton]; decide)
  have hsm := @bigF_sm ps
  have hz : manyF [t] = false → szF t ≤ 1000000 := fun h => by have := (many_size h).2 t (by simp); omega
  have hS := fun hs h => conj_Spans ps hs p t h
  have hF := fun hs h => ref29_LocalFault ps hs p 0 t h
  have hR := fun hs h (i : Nat) (e : p = i) (he : lclF ps p 0 t = 0) => ref37_Spans ps hs i t h (by rw [← e]; exact he)
  unfold aSpansR at hS
  have hp0 : lclF ps p 0 t = 0 → ∃ i : Nat, p = i ∧ i < ps.length := fun he => by
    have h0 : 0 ≤ p := by
      unfold lclF at he
      split at he
      · rename_i h; exact absurd he h
      · split at he
        · cases he
        · rename_i h; omega
    obtain ⟨i, rfl⟩ : ∃ i : Nat, p = i := ⟨p.toNat, by omega⟩
    obtain ⟨_, hp, _⟩ := lcl_ok he
    exact ⟨i, rfl, hp⟩
  have hlen : ∀ hs : Sm ps, ∀ i, i < ps.length → (spansF ps i t).length ≤ 1000001 := fun hs i hi => by
    unfold spansF
    refine Nat.le_trans (spL_len _) ?_
    rw [nev_get hi]
    have := hs.evs _ (List.getElem_mem hi); omega
  have hsf : ∀ i : Nat, p = i → spansF ps p.toNat t = spansF ps i t := fun i e => by subst e; rfl
  generalize manyF [t] = mh at *
  generalize lclF ps p 0 t = e at *
  obtain ⟨k, n, q0, q, s, l⟩ := t
  simp only [aPd_mk, List.map_cons, List.map_nil] at *
  cases hbb : bigF ps with
  | true =>
    rw [hbb] at hbig
    refine PC.enter 50 [.tmp 6] [3, 5, 16] Go.Proofs.Tryz.func3 rfl rfl rfl rfl rfl (by simp) (AWp.of ?_); simp only [go_sem]
    repeat (first | ((with_reducible refine AWp.ofC ?_ ?_); (focus exact rfl); simp only [go_sem]) | ((with_reducible refine an ?_ ?_); focus exact Au))
    repeat ((with_reducible refine an ?_ ?_); focus exact As)
    refine (haw).val.use ?_; simp only [go_sem]
    repeat (first | ((with_reducible refine AWp.ofC ?_ ?_); (focus exact rfl); simp only [go_sem]) | ((with_reducible refine an ?_ ?_); focus exact Au))
    repeat ((with_reducible refine an ?_ ?_); focus exact As)
    refine (hbig).val.use ?_; simp only [go_sem]
    repeat ((with_reducible refine an ?_ ?_); focus exact As)
    refine GCall.use (ab true) (fun g => g.elim) ?_
    simp only [go_sem]
    repeat (first | ((with_reducible refine AWp.ofC ?_ ?_); (focus exact rfl); simp only [go_sem]) | ((with_reducible refine an ?_ ?_); focus exact Au))
    refine ret_eq ?_; simp only [go_sem]
  | false =>
    rw [hbb] at hbig
    have hs := hsm hbb
    cases mh with
    | true =>
      refine PC.enter 50 [.tmp 6] [3, 5, 16] Go.Proofs.Tryz.func3 rfl rfl rfl rfl rfl (by simp) (AWp.of ?_); simp only [go_sem]
      repeat (first | ((with_reducible refine AWp.ofC ?_ ?_); (focus exact rfl); simp only [go_sem]) | ((with_reducible refine an ?_ ?_); focus exact Au))
      repeat ((with_reducible refine an ?_ ?_); focus exact As)
      refine (haw).val.use ?_; simp only [go_sem]
      repeat (first | ((with_reducible refine AWp.ofC ?_ ?_); (focus exact rfl); simp only [go_sem]) | ((with_reducible refine an ?_ ?_); focus exact Au))
      repeat ((with_reducible refine an ?_ ?_); focus exact As)
      refine (hbig).val.use ?_; simp only [go_sem]
      repeat ((with_reducible refine an ?_ ?_); focus exact As)
      refine GCall.use (ab true) (fun _ => ⟨At, (hhu).val.use ⟨rfl, rfl⟩⟩) ?_; simp only [go_sem]
      repeat ((with_reducible refine an ?_ ?_); focus exact As)
      repeat (first | ((with_reducible refine AWp.ofC ?_ ?_); (focus exact rfl); simp only [go_sem]) | ((with_reducible refine an ?_ ?_); focus exact Au))
      refine ret_eq ?_; simp only [go_sem]
    | false =>
      have hz := hz rfl
      have hS := hS hs hz
      have hF := hF hs hz
      by_cases he : e = 0
      · obtain ⟨i, rfl, hi⟩ := hp0 he
        have hR := hR hs hz i rfl he
        have hlen := hlen hs i hi
        rw [if_pos he, hsf i rfl] at hS
        subst he
        generalize spansF ps i (.mk k n q0 q s l) = S at *
        have hsame := same_st S (by omega)
        refine PC.enter 50 [.tmp 6] [3, 5, 16] Go.Proofs.Tryz.func3 rfl rfl rfl rfl rfl (by simp) (AWp.of ?_); simp only [go_sem]
        repeat (first | ((with_reducible refine AWp.ofC ?_ ?_); (focus exact rfl); simp only [go_sem]) | ((with_reducible refine an ?_ ?_); focus exact Au))
        repeat ((with_reducible refine an ?_ ?_); focus exact As)
        refine (haw).val.use ?_; simp only [go_sem]
        repeat (first | ((with_reducible refine AWp.ofC ?_ ?_); (focus exact rfl); simp only [go_sem]) | ((with_reducible refine an ?_ ?_); focus exact Au))
        repeat ((with_reducible refine an ?_ ?_); focus exact As)
        refine (hbig).val.use ?_; simp only [go_sem]
        repeat ((with_reducible refine an ?_ ?_); focus exact As)
        refine GCall.use (ab false) (fun _ => ⟨At, (hhu).val.use ⟨rfl, rfl⟩⟩) ?_; simp only [go_sem]
        repeat ((with_reducible refine an ?_ ?_); focus exact As)
        repeat (first | ((with_reducible refine AWp.ofC ?_ ?_); (focus exact rfl); simp only [go_sem]) | ((with_reducible refine an ?_ ?_); focus exact Au))
        repeat ((with_reducible refine an ?_ ?_); focus exact As)
        refine (hS).val.use ?_; simp only [go_sem]
        repeat (first | ((with_reducible refine AWp.ofC ?_ ?_); (focus exact rfl); simp only [go_sem]) | ((with_reducible refine an ?_ ?_); focus exact Au))
        repeat ((with_reducible refine an ?_ ?_); focus exact As)
        refine (hF).val.use ?_; simp only [go_sem]
        repeat (first | ((with_reducible refine AWp.ofC ?_ ?_); (focus exact rfl); simp only [go_sem]) | ((with_reducible refine an ?_ ?_); focus exact Au))
        repeat ((with_reducible refine an ?_ ?_); focus exact As)
        refine GCall.use (.sl 3 (S.map aStp)) (fun _ => ⟨At, (hR).val.use ⟨rfl, rfl⟩⟩) ?_; simp only [go_sem]
        repeat ((with_reducible refine an ?_ ?_); focus exact As)
        repeat ((with_reducible refine an ?_ ?_); focus exact As)
        refine GCall.use (ab true) (fun _ => ⟨At, (hsame).val.use ⟨rfl, rfl⟩⟩) ?_; simp only [go_sem]
        repeat ((with_reducible refine an ?_ ?_); focus exact As)
        repeat (first | ((with_reducible refine AWp.ofC ?_ ?_); (focus exact rfl); simp only [go_sem]) | ((with_reducible refine an ?_ ?_); focus exact Au))
        refine ret_eq ?_; simp only [go_sem]
      · rw [if_neg he] at hS
        refine PC.enter 50 [.tmp 6] [3, 5, 16] Go.Proofs.Tryz.func3 rfl rfl rfl rfl rfl (by simp) (AWp.of ?_); simp only [go_sem]
        repeat (first | ((with_reducible refine AWp.ofC ?_ ?_); (focus exact rfl); simp only [go_sem]) | ((with_reducible refine an ?_ ?_); focus exact Au))
        repeat ((with_reducible refine an ?_ ?_); focus exact As)
        refine (haw).val.use ?_; simp only [go_sem]
        repeat (first | ((with_reducible refine AWp.ofC ?_ ?_); (focus exact rfl); simp only [go_sem]) | ((with_reducible refine an ?_ ?_); focus exact Au))
        repeat ((with_reducible refine an ?_ ?_); focus exact As)
        refine (hbig).val.use ?_; simp only [go_sem]
        repeat ((with_reducible refine an ?_ ?_); focus exact As)
        refine GCall.use (ab false) (fun _ => ⟨At, (hhu).val.use ⟨rfl, rfl⟩⟩) ?_; simp only [go_sem]
        repeat ((with_reducible refine an ?_ ?_); focus exact As)
        repeat (first | ((with_reducible refine AWp.ofC ?_ ?_); (focus exact rfl); simp only [go_sem]) | ((with_reducible refine an ?_ ?_); focus exact Au))
        repeat ((with_reducible refine an ?_ ?_); focus exact As)
        refine (hS).val.use ?_; simp only [go_sem]
        repeat (first | ((with_reducible refine AWp.ofC ?_ ?_); (focus exact rfl); simp only [go_sem]) | ((with_reducible refine an ?_ ?_); focus exact Au))
        repeat ((with_reducible refine an ?_ ?_); focus exact As)
        refine (hF).val.use ?_; simp only [go_sem, he]
        repeat (first | ((with_reducible refine AWp.ofC ?_ ?_); (focus exact rfl); simp only [go_sem, he]) | ((with_reducible refine an ?_ ?_); focus exact Au))
        refine ret_eq ?_; simp only [go_sem]
        rfl
end Go.AL
end
section
/- The layer AL, last part: from the contracts to the statements about a call. No condition. -/
namespace Go.AL
open Go Go.RowKit Go.ChangeShapes Go.WideShapes Go.ChangeAt

theorem Fr.below {W W' : World} (h : Fr W (keysOf []) W') : Below W.heap.size W W' := ⟨h.os, h.tape, h.output, h.size, fun k hk => h.block k hk (by rintro ⟨x, hx, _⟩; cases hx)⟩
theorem LRel.empty (W : World) (hg : ∀ g x, GV g = some x → Rel W (fun b => b < W.heap.size) x (.pointer (some ⟨g, 0, none⟩))) : LRel W (fun b => b < W.heap.size) [] := ⟨fun _ h => h, (by intro x hx; cases hx), List.nodup_nil, (by intro x hx; cases hx), hg⟩
/-- A contract whose answer is a plain value, as a statement about the call. -/
theorem PC.calls {P : Program} {f : FuncId} {args : List AV} {x : Value} (h : PC P f args (.v x)) {W : World} {vs : List Value} (hg : ∀ g x, GV g = some x → Rel W (fun b => b < W.heap.size) x (.pointer (some ⟨g, 0, none⟩))) (hr : Rels W (fun b => b < W.heap.size) args vs) :
    Calls P f vs.toArray W fun e W' => e = .returned x ∧ Below W.heap.size W W' :=
  ((h.2 0 W _ vs (LRel.empty W hg) hr).calls (fun _ d hd => by cases hd)).mono fun e W' ⟨v, r, L', A', he, ⟨hr, _⟩, hf, _, _, _, hv⟩ => by
    subst he hr
    cases hv
    exact ⟨rfl, hf.below⟩
/-! ### What is read of the arguments -/
/-- Whatever is read at type t is E of some value. -/
def Rd {H : Type} (enc : TypeId × Value → H) (P : Program) (W : World) (t : TypeId) (k : Nat) {α : Type} (E : α → AV) (ok : α → Prop) : Prop :=
  ∀ fuel cs x, DataW.trod enc P W 0 (fun _ => true) true fuel t cs = some x → ∃ y, ok y ∧ elOk k (E y) ∧ cs.length = k ∧ ∀ (i : Nat) c u, (E y).cells[i]? = some c → cs[i]? = some u → Rel W (fun b => b < W.heap.size) c u
section
variable {H : Type} {enc : TypeId × Value → H} {P : Program} {W : World} {t : TypeId}
theorem Rd.int (ht : P.underlying t = some (.int .i64)) : Rd enc P W t 1 ai (fun n => (Lit.int .i64 n).wf = true) := by
  intro fuel cs x h
  obtain ⟨n, rfl, _, hw⟩ := DataW.trod_int ht h
  refine ⟨n, hw, ⟨rfl, rfl⟩, rfl, fun i c u h1 h2 => ?_⟩
  cases i with
  | zero => cases h1; cases h2; exact .v _
  | succ i => cases h2
theorem Rd.str (ht : P.underlying t = some .string) : Rd enc P W t 1 (fun s => .v (.string s)) (fun _ => True) := by
  intro fuel cs x h
  obtain ⟨s, rfl, _, hw⟩ := DataW.trod_string ht h
  refine ⟨s, trivial, ⟨rfl, rfl⟩, rfl, fun i c u h1 h2 => ?_⟩
  cases i with
  | zero => cases h1; cases h2; exact .v _
  | succ i => cases h2
theorem ofFin {α : Type} {len : Nat} {Q : Nat → α → Prop} (h : ∀ i, i < len → ∃ y, Q i y) : ∃ l : List α, l.length = len ∧ ∀ (i : Nat) (hi : i < l.length), Q i l[i] := by
  refine ⟨List.ofFn fun i : Fin len => Classical.choose (h i i.2), List.length_ofFn, fun i hi => ?_⟩
  rw [List.getElem_ofFn]
  exact Classical.choose_spec (h i (by simpa using hi))
theorem add_none (b off n : Nat) : (⟨b, off, none⟩ : Addr).add n = ⟨b, off + n, none⟩ := by
  unfold Addr.add; split
  · rename_i h; rw [h]; rfl
  · rfl
theorem Rd.slice {α : Type} {E : α → AV} {ok : α → Prop} {e : TypeId} {k : Nat} (ht : P.underlying t = some (.slice e)) (hk : P.cellsOf e = k) (h0 : 0 < k) (he : Rd enc P W e k E ok) :
    Rd enc P W t 1 (fun l : List α => .sl k (l.map E)) (fun l => l.length ≤ maxLen ∧ ∀ y ∈ l, ok y) := by
  intro fuel cs x h
  rcases DataW.trod_slice ht h with ⟨rfl, _⟩ | ⟨a, len, cap, elems, rest, n, _, rfl, _, _, hl, hm, hlen, hel, _, _⟩
  · refine ⟨[], ⟨by simp, by simp⟩, ⟨rfl, rfl⟩, rfl, fun i c u h1 h2 => ?_⟩
    cases i with
    | zero => cases h1; cases h2; exact .sl0 k none 0 (by simp)
    | succ i => cases h2
  · rw [hk] at hel
    obtain ⟨l, hll, hli⟩ := ofFin (len := len) (Q := fun i y => ∃ cs : List Value, ok y ∧ elOk k (E y) ∧ cs.length = k ∧ (∀ m, m < k → W.cell? ((a.add (i * k)).add m) = cs[m]?) ∧ ∀ (m : Nat) c u, (E y).cells[m]? = some c → cs[m]? = some u → Rel W (fun b => b < W.heap.size) c u) fun i hi => by
      have h1 := hel i hi
      rw [List.getElem?_eq_getElem (by omega), Option.bind_eq_some_iff] at h1
      obtain ⟨cs, hc, ht⟩ := h1
      obtain ⟨y, k1, k2, k3, k4⟩ := he _ _ _ ht
      exact ⟨y, cs, k1, k2, k3, (World.cells?_some hc).2.2, k4⟩
    refine ⟨l, ⟨by omega, fun y hy => ?_⟩, ⟨rfl, rfl⟩, rfl, fun i c u h1 h2 => ?_⟩
    · obtain ⟨i, hi, rfl⟩ := List.getElem_of_mem hy
      obtain ⟨_, h, _⟩ := hli i (by omega); exact h
    · cases i with
      | succ i => cases h2
      | zero =>
        cases h1; cases h2
        by_cases hz : len = 0
        · subst hz
          rw [List.length_eq_zero_iff.1 hll]
          exact .sl0 k _ cap hm
        · obtain ⟨b, off, spot⟩ := a
          obtain ⟨cs0, _, _, c3, c4, _⟩ := hli 0 (by omega)
          have hs : spot = none := by
            have := c4 0 h0
            have e0 : ∀ a : Addr, a.add 0 = a := fun _ => rfl
            rw [Nat.zero_mul, e0, e0, List.getElem?_eq_getElem (by omega)] at this
            cases spot with
            | none => rfl
            | some s =>
              exfalso
              unfold World.cell? at this
              split at this
              · rw [if_pos (show (some s).isSome = true from rfl)] at this; cases this
              · cases this
          subst hs
          have cell : ∀ (i : Nat) (hi : i < len) (m : Nat), m < k → ∃ u, W.cell? ⟨b, off + (i * k + m), none⟩ = some u ∧ ∀ c, (E (l[i]'(by omega))).cells[m]? = some c → Rel W (fun b => b < W.heap.size) c u := fun i hi m hm => by
            obtain ⟨cs, _, _, c3, c4, c5⟩ := hli i (by omega)
            have := c4 m hm
            rw [add_none, add_none, Nat.add_assoc, List.getElem?_eq_getElem (by omega)] at this
            exact ⟨_, this, fun c hc => c5 m c _ hc (List.getElem?_eq_getElem (by omega))⟩
          have hA : b < W.heap.size := by
            obtain ⟨u, hu, _⟩ := cell 0 (by omega) 0 h0
            unfold World.cell? at hu
            cases hb : W.heap[b]? with
            | none => simp [hb] at hu
            | some o => exact (Array.getElem?_eq_some_iff.1 hb).1
          have := Rel.sl (w := W) (A := fun b => b < W.heap.size) k (l.map E) b off cap (fun j => (W.cell? ⟨b, off + j, none⟩).getD undef) hA (by rw [List.length_map]; omega) hm
            (fun x hx => by
              obtain ⟨y, hy, rfl⟩ := List.mem_map.1 hx
              obtain ⟨i, hi, rfl⟩ := List.getElem_of_mem hy
              obtain ⟨cs, _, c2, _⟩ := hli i (by omega)
              exact c2)
            (fun j hj => by
              rw [List.length_map, hll] at hj
              have h1 : j / k < len := (Nat.div_lt_iff_lt_mul h0).2 hj
              obtain ⟨u, hu, _⟩ := cell (j / k) h1 (j % k) (Nat.mod_lt _ h0)
              have e : j / k * k + j % k = j := Nat.div_add_mod' j k
              rw [e] at hu
              rw [hu]; rfl)
            (fun i x j y hx hy => by
              rw [List.getElem?_map, Option.map_eq_some_iff] at hx
              obtain ⟨z, hz, rfl⟩ := hx
              obtain ⟨hi, rfl⟩ := List.getElem?_eq_some_iff.1 hz
              obtain ⟨cs, _, c2, _⟩ := hli i (by omega)
              have hj : j < k := by have := (List.getElem?_eq_some_iff.1 hy).1; have := c2.1; omega
              obtain ⟨u, hu, hr⟩ := cell i (by omega) j hj
              rw [hu]
              exact hr _ hy)
          rw [List.length_map, hll] at this
          exact this
/-! ### The statement's end -/
theorem trodAll_stays {W' : World} (hl : laidOutB P = true) (hb : Below W.heap.size W W') : ∀ {ts : List TypeId} {vs : List Value} {ds : List (DataW H)} {ps : List MemPlace}, (∀ t ∈ ts, P.readableRec t = true ∧ t < P.types.size) → DataW.TrodAll enc P W 0 (fun _ => true) true ts vs ds ps →
    DataW.TrodAll enc P W' 0 (fun b => decide (b < W.heap.size)) true ts vs ds ps
  | [], _, _, _, _, h => by
    obtain ⟨rfl, rfl, rfl⟩ := trodAll_nil h
    rfl
  | t :: ts, _, _, _, ht, h => by
    have hlt := h.lt
    obtain ⟨v, vs1, d, ds1, a, b, rfl, rfl, rfl, h1, h2⟩ := trodAll_cons h
    exact ⟨a, b, Below.trod hl (ht t List.mem_cons_self).1 (ht t List.mem_cons_self).2 h1 hb (fun x hx => hlt x (List.mem_append_left _ hx)), trodAll_stays hl hb (fun t' ht' => ht t' (List.mem_cons_of_mem _ ht')) h2, rfl⟩
/-- It returned true, and of what was there nothing turned. -/
theorem post_true {f : Func} {s : ChangeSpec} {fresh handsOn : Bool} {W' : World} {args : Array Value} {ds : List (DataW H)} {before : List MemPlace} {tb : TypeId} (hl : laidOutB P = true)
    (hW : DataW.Whole enc P f.params.toList s.vars false W args.toList ds [] before) (hv : s.vars = []) (hs : s.fn H (ds ++ []) = { results := [.lit (.bool true)], args := ds })
    (hr : f.resultTypes = #[tb]) (ht : P.underlying tb = some .bool) (hp : ∀ t ∈ f.params.toList, P.readableRec t = true ∧ t < P.types.size) (hb : Below W.heap.size W W') :
    s.post enc P f false fresh handsOn false W args (.bool true) W' := by
  have hW0 := hW
  obtain ⟨p, q, hA, hV, rfl, _, _⟩ := hW0
  refine ⟨ds, [], p ++ q, [], p, [], hW, ?_, ?_, ?_, hb.frame _, fun h => by cases h⟩
  · rw [hs, hr]
    exact ⟨[], [], ⟨1, by simp [DataW.trod, Value.cells, ht]⟩, rfl, rfl⟩
  · rw [hs]
    exact trodAll_stays hl hb hp hA
  · rw [hs, hv]; rfl
end
end Go.AL
end
section
/- The layer AL: structs as arguments. No condition. -/
namespace Go.AL
open Go Go.RowKit Go.ChangeShapes Go.WideShapes Go.ChangeAt
section
variable {H : Type} {enc : TypeId × Value → H} {P : Program} {W : World} {t : TypeId}
theorem Rd.map {α β : Type} {k : Nat} {E : α → AV} {E' : β → AV} {ok : α → Prop} {ok' : β → Prop} (f : α → β) (hE : ∀ y, E y = E' (f y)) (hok : ∀ y, ok y → ok' (f y)) (h : Rd enc P W t k E ok) : Rd enc P W t k E' ok' := by
  intro fuel cs x hx
  obtain ⟨y, k1, k2, k3, k4⟩ := h fuel cs x hx
  exact ⟨f y, hok y k1, by rw [← hE]; exact k2, k3, by rw [← hE]; exact k4⟩
/-- Whatever is read at types ts, of one cell each, is E of some value. -/
def RdL (enc : TypeId × Value → H) (P : Program) (W : World) (ts : List TypeId) {α : Type} (E : α → List AV) (ok : α → Prop) : Prop :=
  ∀ (n : Nat) (cs : List Value) (xs : List (DataW H × List MemPlace)), xs.length = ts.length → cs.length = ts.length →
    (∀ (i : Nat) t, ts[i]? = some t → DataW.trod enc P W 0 (fun _ => true) true n t ((cs.drop i).take 1) = xs[i]?) →
    ∃ y, ok y ∧ (E y).length = ts.length ∧ (E y).all one = true ∧ ∀ (i : Nat) c u, (E y)[i]? = some c → cs[i]? = some u → Rel W (fun b => b < W.heap.size) c u
theorem RdL.nil : RdL enc P W [] (fun _ : Unit => []) (fun _ => True) := by
  intro n cs xs _ _ _
  exact ⟨(), trivial, rfl, rfl, fun i c u h => by simp at h⟩
theorem RdL.cons {α β : Type} {E : α → AV} {ok : α → Prop} {ts : List TypeId} {F : β → List AV} {ok' : β → Prop} (h : Rd enc P W t 1 E ok) (h1 : ∀ y, one (E y) = true ∧ (E y).cells = [E y]) (hs : RdL enc P W ts F ok') :
    RdL enc P W (t :: ts) (fun y : α × β => E y.1 :: F y.2) (fun y => ok y.1 ∧ ok' y.2) := by
  intro n cs xs hx hc hi
  match xs, cs, hx, hc with
  | x :: xs, u :: cs, hx, hc =>
    have h0 := hi 0 t rfl
    simp only [List.drop_zero, List.take_succ_cons, List.take_zero, List.getElem?_cons_zero] at h0
    obtain ⟨y, k1, _, _, k4⟩ := h _ _ _ h0
    obtain ⟨z, g1, g2, g3, g4⟩ := hs n cs xs (by simpa using hx) (by simpa using hc) fun i t' ht => by
      have := hi (i + 1) t' (by simpa using ht)
      simpa using this
    refine ⟨(y, z), ⟨k1, g1⟩, by simp [g2], by simp [g3, (h1 y).1], fun i c u' hcc hu => ?_⟩
    cases i with
    | zero => cases hcc; cases hu; exact k4 0 _ _ (by rw [(h1 y).2]; rfl) rfl
    | succ i => exact g4 i c u' (by simpa using hcc) (by simpa using hu)
theorem Rd.struct {fs : Array Field} {α : Type} {ts : List TypeId} {F : α → List AV} {ok : α → Prop} (ht : P.underlying t = some (.struct fs)) (hts : fs.toList.map (·.type) = ts) (hof : fs.toList.map (·.offset) = List.range ts.length) (hk : P.cellsOf t = ts.length)
    (hc : (ts.all fun t => P.cellsOf t == 1) = true) (h : RdL enc P W ts F ok) : Rd enc P W t ts.length (fun y => .agg (F y)) ok := by
  intro fuel cs x hx
  obtain ⟨xs, n, _, _, hl, hlen, hf⟩ := DataW.trod_struct ht hx
  have hfl : fs.size = ts.length := by rw [← hts]; simp
  obtain ⟨y, k1, k2, k3, k4⟩ := h n cs xs (by omega) (by omega) fun i t' ht' => by
    have hi : i < ts.length := (List.getElem?_eq_some_iff.1 ht').1
    have hg : fs[i]? = some fs[i] := Array.getElem?_eq_getElem (by omega)
    have e1 : (fs[i]).type = t' := by
      rw [← hts, List.getElem?_map, Array.getElem?_toList, hg] at ht'
      exact Option.some.inj ht'
    have e2 : (fs[i]).offset = i := by
      have : (fs.toList.map (·.offset))[i]? = some i := by rw [hof, List.getElem?_range hi]
      rw [List.getElem?_map, Array.getElem?_toList, hg] at this
      exact Option.some.inj this
    have := hf i _ hg
    have hct : P.cellsOf t' = 1 := by
      have := List.all_eq_true.1 hc _ (List.mem_of_getElem? ht')
      simpa using this
    rw [e1, e2, hct] at this
    exact this
  exact ⟨y, k1, ⟨k2, k3⟩, by omega, k4⟩
/-- An argument that is a struct. -/
theorem Rd.agg {α : Type} {k : Nat} {E : α → AV} {F : α → List AV} {ok : α → Prop} (hE : ∀ y, E y = .agg (F y)) (h : Rd enc P W t k E ok) {v : Value} {d : DataW H} {ps : List MemPlace} (ha : ∃ us, v = .agg us)
    (hd : DataW.Trod enc P W 0 (fun _ => true) true t v d ps) : ∃ y, ok y ∧ Rel W (fun b => b < W.heap.size) (E y) v := by
  obtain ⟨us, rfl⟩ := ha
  obtain ⟨fuel, hf⟩ := hd
  obtain ⟨y, k1, k2, k3, k4⟩ := h _ _ _ hf
  refine ⟨y, k1, ?_⟩
  have e1 : (E y).cells = F y := by rw [hE]; rfl
  have e2 : (Value.agg us).cells.toList = us.toList := rfl
  have k5 := k2.1
  rw [e1] at k4 k5
  rw [e2] at k3 k4
  rw [hE]
  refine .agg _ _ ?_ fun i c u h1 h2 => k4 i c u h1 (by simpa using h2)
  rw [k5, ← k3]; simp
theorem okWide_agg {r : Go.Reach} {b : Nat} {fs : Array Field} {v : Value} (ht : P.underlying t = some (.struct fs)) (h : Value.okWide P W r b t v) : ∃ us, v = .agg us := by
  unfold Value.okWide at h
  rw [ht] at h
  obtain ⟨cs, h1, _⟩ := h
  exact ⟨cs, h1⟩
theorem Rd.one {α : Type} {E : α → AV} {ok : α → Prop} (h : Rd enc P W t 1 E ok) (h1 : ∀ y, (E y).cells = [E y]) {v : Value} {d : DataW H} {ps : List MemPlace} (hc : v.cells = #[v])
    (hd : DataW.Trod enc P W 0 (fun _ => true) true t v d ps) : ∃ y, ok y ∧ Rel W (fun b => b < W.heap.size) (E y) v := by
  obtain ⟨fuel, hf⟩ := hd
  rw [hc] at hf
  obtain ⟨y, k1, _, _, k4⟩ := h _ _ _ hf
  exact ⟨y, k1, k4 0 _ _ (by rw [h1]; rfl) rfl⟩
end
end Go.AL
end
section
/- The layer AL: recursive types as arguments: reading with bounded fuel. No condition. -/
namespace Go.AL
open Go Go.RowKit Go.ChangeShapes Go.WideShapes Go.ChangeAt
/-- Whatever is read at type t with fuel of at most N is E of some value. -/
def RdF {H : Type} (enc : TypeId × Value → H) (P : Program) (W : World) (N : Nat) (t : TypeId) (k : Nat) {α : Type} (E : α → AV) (ok : α → Prop) : Prop :=
  ∀ fuel cs x, fuel ≤ N → DataW.trod enc P W 0 (fun _ => true) true fuel t cs = some x → ∃ y, ok y ∧ elOk k (E y) ∧ cs.length = k ∧ ∀ (i : Nat) c u, (E y).cells[i]? = some c → cs[i]? = some u → Rel W (fun b => b < W.heap.size) c u
section
variable {H : Type} {enc : TypeId × Value → H} {P : Program} {W : World} {t : TypeId}
theorem Rd.bounded {α : Type} {k : Nat} {E : α → AV} {ok : α → Prop} (h : Rd enc P W t k E ok) (N : Nat) : RdF enc P W N t k E ok := fun fuel cs x _ hx => h fuel cs x hx
theorem RdF.all {α : Type} {k : Nat} {E : α → AV} {ok : α → Prop} (h : ∀ N, RdF enc P W N t k E ok) : Rd enc P W t k E ok := fun fuel cs x hx => h fuel fuel cs x (Nat.le_refl _) hx
theorem RdF.mono {α : Type} {k : Nat} {E : α → AV} {ok : α → Prop} {N M : Nat} (h : RdF enc P W N t k E ok) (hM : M ≤ N) : RdF enc P W M t k E ok := fun fuel cs x hf hx => h fuel cs x (by omega) hx
theorem RdF.zero {α : Type} {k : Nat} {E : α → AV} {ok : α → Prop} : RdF enc P W 0 t k E ok := fun fuel cs x hf hx => by
  obtain rfl : fuel = 0 := by omega
  simp [DataW.trod] at hx
theorem RdF.map {α β : Type} {k : Nat} {N : Nat} {E : α → AV} {E' : β → AV} {ok : α → Prop} {ok' : β → Prop} (f : α → β) (hE : ∀ y, E y = E' (f y)) (hok : ∀ y, ok y → ok' (f y)) (h : RdF enc P W N t k E ok) : RdF enc P W N t k E' ok' := by
  intro fuel cs x hN hx
  obtain ⟨y, k1, k2, k3, k4⟩ := h fuel cs x hN hx
  exact ⟨f y, hok y k1, by rw [← hE]; exact k2, k3, by rw [← hE]; exact k4⟩
theorem RdF.slice {N : Nat} {α : Type} {E : α → AV} {ok : α → Prop} {e : TypeId} {k : Nat} (ht : P.underlying t = some (.slice e)) (hk : P.cellsOf e = k) (h0 : 0 < k) (he : RdF enc P W N e k E ok) :
    RdF enc P W (N + 1) t 1 (fun l : List α => .sl k (l.map E)) (fun l => l.length ≤ maxLen ∧ ∀ y ∈ l, ok y) := by
  intro fuel cs x hN h
  rcases DataW.trod_slice ht h with ⟨rfl, _⟩ | ⟨a, len, cap, elems, rest, n, hfu, rfl, _, _, hl, hm, hlen, hel, _, _⟩
  · refine ⟨[], ⟨by simp, by simp⟩, ⟨rfl, rfl⟩, rfl, fun i c u h1 h2 => ?_⟩
    cases i with
    | zero => cases h1; cases h2; exact .sl0 k none 0 (by simp)
    | succ i => cases h2
  · rw [hk] at hel
    obtain ⟨l, hll, hli⟩ := ofFin (len := len) (Q := fun i y => ∃ cs : List Value, ok y ∧ elOk k (E y) ∧ cs.length = k ∧ (∀ m, m < k → W.cell? ((a.add (i * k)).add m) = cs[m]?) ∧ ∀ (m : Nat) c u, (E y).cells[m]? = some c → cs[m]? = some u → Rel W (fun b => b < W.heap.size) c u) fun i hi => by
      have h1 := hel i hi
      rw [List.getElem?_eq_getElem (by omega), Option.bind_eq_some_iff] at h1
      obtain ⟨cs, hc, ht⟩ := h1
      obtain ⟨y, k1, k2, k3, k4⟩ := he _ _ _ (by omega) ht
      exact ⟨y, cs, k1, k2, k3, (World.cells?_some hc).2.2, k4⟩
    refine ⟨l, ⟨by omega, fun y hy => ?_⟩, ⟨rfl, rfl⟩, rfl, fun i c u h1 h2 => ?_⟩
    · obtain ⟨i, hi, rfl⟩ := List.getElem_of_mem hy
      obtain ⟨_, h, _⟩ := hli i (by omega); exact h
    · cases i with
      | succ i => cases h2
      | zero =>
        cases h1; cases h2
        by_cases hz : len = 0
        · subst hz
          rw [List.length_eq_zero_iff.1 hll]
          exact .sl0 k _ cap hm
        · obtain ⟨b, off, spot⟩ := a
          obtain ⟨cs0, _, _, c3, c4, _⟩ := hli 0 (by omega)
          have hs : spot = none := by
            have := c4 0 h0
            have e0 : ∀ a : Addr, a.add 0 = a := fun _ => rfl
            rw [Nat.zero_mul, e0, e0, List.getElem?_eq_getElem (by omega)] at this
            cases spot with
            | none => rfl
            | some s =>
              exfalso
              unfold World.cell? at this
              split at this
              · rw [if_pos (show (some s).isSome = true from rfl)] at this; cases this
              · cases this
          subst hs
          have cell : ∀ (i : Nat) (hi : i < len) (m : Nat), m < k → ∃ u, W.cell? ⟨b, off + (i * k + m), none⟩ = some u ∧ ∀ c, (E (l[i]'(by omega))).cells[m]? = some c → Rel W (fun b => b < W.heap.size) c u := fun i hi m hm => by
            obtain ⟨cs, _, _, c3, c4, c5⟩ := hli i (by omega)
            have := c4 m hm
            rw [add_none, add_none, Nat.add_assoc, List.getElem?_eq_getElem (by omega)] at this
            exact ⟨_, this, fun c hc => c5 m c _ hc (List.getElem?_eq_getElem (by omega))⟩
          have hA : b < W.heap.size := by
            obtain ⟨u, hu, _⟩ := cell 0 (by omega) 0 h0
            unfold World.cell? at hu
            cases hb : W.heap[b]? with
            | none => simp [hb] at hu
            | some o => exact (Array.getElem?_eq_some_iff.1 hb).1
          have := Rel.sl (w := W) (A := fun b => b < W.heap.size) k (l.map E) b off cap (fun j => (W.cell? ⟨b, off + j, none⟩).getD undef) hA (by rw [List.length_map]; omega) hm
            (fun x hx => by
              obtain ⟨y, hy, rfl⟩ := List.mem_map.1 hx
              obtain ⟨i, hi, rfl⟩ := List.getElem_of_mem hy
              obtain ⟨cs, _, c2, _⟩ := hli i (by omega)
              exact c2)
            (fun j hj => by
              rw [List.length_map, hll] at hj
              have h1 : j / k < len := (Nat.div_lt_iff_lt_mul h0).2 hj
              obtain ⟨u, hu, _⟩ := cell (j / k) h1 (j % k) (Nat.mod_lt _ h0)
              have e : j / k * k + j % k = j := Nat.div_add_mod' j k
              rw [e] at hu
              rw [hu]; rfl)
            (fun i x j y hx hy => by
              rw [List.getElem?_map, Option.map_eq_some_iff] at hx
              obtain ⟨z, hz, rfl⟩ := hx
              obtain ⟨hi, rfl⟩ := List.getElem?_eq_some_iff.1 hz
              obtain ⟨cs, _, c2, _⟩ := hli i (by omega)
              have hj : j < k := by have := (List.getElem?_eq_some_iff.1 hy).1; have := c2.1; omega
              obtain ⟨u, hu, hr⟩ := cell i (by omega) j hj
              rw [hu]
              exact hr _ hy)
          rw [List.length_map, hll] at this
          exact this
/-- Whatever is read at types ts, of one cell each, is E of some value. -/
def RdFL (enc : TypeId × Value → H) (P : Program) (W : World) (N : Nat) (ts : List TypeId) {α : Type} (E : α → List AV) (ok : α → Prop) : Prop :=
  ∀ (n : Nat) (cs : List Value) (xs : List (DataW H × List MemPlace)), n ≤ N → xs.length = ts.length → cs.length = ts.length →
    (∀ (i : Nat) t, ts[i]? = some t → DataW.trod enc P W 0 (fun _ => true) true n t ((cs.drop i).take 1) = xs[i]?) →
    ∃ y, ok y ∧ (E y).length = ts.length ∧ (E y).all one = true ∧ ∀ (i : Nat) c u, (E y)[i]? = some c → cs[i]? = some u → Rel W (fun b => b < W.heap.size) c u
theorem RdFL.nil {N : Nat} : RdFL enc P W N [] (fun _ : Unit => []) (fun _ => True) := by
  intro n cs xs _ _ _ _
  exact ⟨(), trivial, rfl, rfl, fun i c u h => by simp at h⟩
theorem RdFL.cons {N : Nat} {α β : Type} {E : α → AV} {ok : α → Prop} {ts : List TypeId} {F : β → List AV} {ok' : β → Prop} (h : RdF enc P W N t 1 E ok) (h1 : ∀ y, one (E y) = true ∧ (E y).cells = [E y]) (hs : RdFL enc P W N ts F ok') :
    RdFL enc P W N (t :: ts) (fun y : α × β => E y.1 :: F y.2) (fun y => ok y.1 ∧ ok' y.2) := by
  intro n cs xs hN hx hc hi
  match xs, cs, hx, hc with
  | x :: xs, u :: cs, hx, hc =>
    have h0 := hi 0 t rfl
    simp only [List.drop_zero, List.take_succ_cons, List.take_zero, List.getElem?_cons_zero] at h0
    obtain ⟨y, k1, _, _, k4⟩ := h _ _ _ hN h0
    obtain ⟨z, g1, g2, g3, g4⟩ := hs n cs xs hN (by simpa using hx) (by simpa using hc) fun i t' ht => by
      have := hi (i + 1) t' (by simpa using ht)
      simpa using this
    refine ⟨(y, z), ⟨k1, g1⟩, by simp [g2], by simp [g3, (h1 y).1], fun i c u' hcc hu => ?_⟩
    cases i with
    | zero => cases hcc; cases hu; exact k4 0 _ _ (by rw [(h1 y).2]; rfl) rfl
    | succ i => exact g4 i c u' (by simpa using hcc) (by simpa using hu)
theorem RdF.struct {N : Nat} {fs : Array Field} {α : Type} {ts : List TypeId} {F : α → List AV} {ok : α → Prop} (ht : P.underlying t = some (.struct fs)) (hts : fs.toList.map (·.type) = ts) (hof : fs.toList.map (·.offset) = List.range ts.length) (hk : P.cellsOf t = ts.length)
    (hc : (ts.all fun t => P.cellsOf t == 1) = true) (h : RdFL enc P W N ts F ok) : RdF enc P W (N + 1) t ts.length (fun y => .agg (F y)) ok := by
  intro fuel cs x hN hx
  obtain ⟨xs, n, hfu, _, hl, hlen, hf⟩ := DataW.trod_struct ht hx
  have hfl : fs.size = ts.length := by rw [← hts]; simp
  obtain ⟨y, k1, k2, k3, k4⟩ := h n cs xs (by omega) (by omega) (by omega) fun i t' ht' => by
    have hi : i < ts.length := (List.getElem?_eq_some_iff.1 ht').1
    have hg : fs[i]? = some fs[i] := Array.getElem?_eq_getElem (by omega)
    have e1 : (fs[i]).type = t' := by
      rw [← hts, List.getElem?_map, Array.getElem?_toList, hg] at ht'
      exact Option.some.inj ht'
    have e2 : (fs[i]).offset = i := by
      have : (fs.toList.map (·.offset))[i]? = some i := by rw [hof, List.getElem?_range hi]
      rw [List.getElem?_map, Array.getElem?_toList, hg] at this
      exact Option.some.inj this
    have := hf i _ hg
    have hct : P.cellsOf t' = 1 := by
      have := List.all_eq_true.1 hc _ (List.mem_of_getElem? ht')
      simpa using this
    rw [e1, e2, hct] at this
    exact this
  exact ⟨y, k1, ⟨k2, k3⟩, by omega, k4⟩
end
end Go.AL
end
section
/- What is read of arguments that are traces or lists. No condition. -/
namespace Go.AL
open Go Go.RowKit
set_option maxRecDepth 100000
section
variable {H : Type} {enc : TypeId × Value → H} {W : World}
theorem rdInt : Rd enc Go.Proofs.Tryz.prog W 3 1 ai (fun _ => True) := (Rd.int Go.Proofs.Tryz.underlying3).map id (fun _ => rfl) (fun _ _ => trivial)
theorem rdAsg : Rd enc Go.Proofs.Tryz.prog W 146 2 aAsg (fun _ => True) :=
  (Rd.struct (ts := [3, 3]) Go.Proofs.Tryz.underlying146 rfl rfl (by kernel_rfl) (by kernel_rfl)
    (.cons (Rd.int Go.Proofs.Tryz.underlying3) (fun _ => ⟨rfl, rfl⟩) (.cons (Rd.int Go.Proofs.Tryz.underlying3) (fun _ => ⟨rfl, rfl⟩) .nil))).map (fun (y : Int × Int × Unit) => (y.1, y.2.1)) (fun _ => rfl) (fun _ _ => trivial)
theorem rdAsgs : Rd enc Go.Proofs.Tryz.prog W 99 1 aAsgs (fun _ => True) :=
  (Rd.slice Go.Proofs.Tryz.underlying99 (by kernel_rfl : Program.cellsOf Go.Proofs.Tryz.prog 146 = 2) (by decide) rdAsg).map id (fun _ => rfl) (fun _ _ => trivial)
theorem rdVar : Rd enc Go.Proofs.Tryz.prog W 143 2 aVar (fun _ => True) :=
  (Rd.struct (ts := [9, 3]) Go.Proofs.Tryz.underlying143 rfl rfl (by kernel_rfl) (by kernel_rfl)
    (.cons (Rd.str Go.Proofs.Tryz.underlying9) (fun _ => ⟨rfl, rfl⟩) (.cons (Rd.int Go.Proofs.Tryz.underlying3) (fun _ => ⟨rfl, rfl⟩) .nil))).map (fun (y : ByteArray × Int × Unit) => (y.1, y.2.1)) (fun _ => rfl) (fun _ _ => trivial)
theorem rdVars : Rd enc Go.Proofs.Tryz.prog W 72 1 aVars (fun _ => True) :=
  (Rd.slice Go.Proofs.Tryz.underlying72 (by kernel_rfl : Program.cellsOf Go.Proofs.Tryz.prog 143 = 2) (by decide) rdVar).map id (fun _ => rfl) (fun _ _ => trivial)
theorem rdEv : Rd enc Go.Proofs.Tryz.prog W 101 5 aEv (fun _ => True) :=
  (Rd.struct (ts := [3, 3, 3, 3, 99]) Go.Proofs.Tryz.underlying101 rfl rfl (by kernel_rfl) (by kernel_rfl)
    (.cons (Rd.int Go.Proofs.Tryz.underlying3) (fun _ => ⟨rfl, rfl⟩) (.cons (Rd.int Go.Proofs.Tryz.underlying3) (fun _ => ⟨rfl, rfl⟩) (.cons (Rd.int Go.Proofs.Tryz.underlying3) (fun _ => ⟨rfl, rfl⟩)
      (.cons (Rd.int Go.Proofs.Tryz.underlying3) (fun _ => ⟨rfl, rfl⟩) (.cons rdAsgs (fun _ => ⟨rfl, rfl⟩) .nil)))))).map (fun (y : Int × Int × Int × Int × List (Int × Int) × Unit) => ⟨y.1, y.2.1, y.2.2.1, y.2.2.2.1, y.2.2.2.2.1⟩) (fun _ => rfl) (fun _ _ => trivial)
theorem rdEvs : Rd enc Go.Proofs.Tryz.prog W 73 1 aEvs (fun _ => True) :=
  (Rd.slice Go.Proofs.Tryz.underlying73 (by kernel_rfl : Program.cellsOf Go.Proofs.Tryz.prog 101 = 5) (by decide) rdEv).map id (fun _ => rfl) (fun _ _ => trivial)
theorem rdPr : Rd enc Go.Proofs.Tryz.prog W 75 3 aPr (fun _ => True) :=
  (Rd.struct (ts := [9, 72, 73]) Go.Proofs.Tryz.underlying75 rfl rfl (by kernel_rfl) (by kernel_rfl)
    (.cons (Rd.str Go.Proofs.Tryz.underlying9) (fun _ => ⟨rfl, rfl⟩) (.cons rdVars (fun _ => ⟨rfl, rfl⟩) (.cons rdEvs (fun _ => ⟨rfl, rfl⟩) .nil)))).map (fun (y : ByteArray × List (ByteArray × Int) × List Ev × Unit) => ⟨y.1, y.2.1, y.2.2.1⟩) (fun _ => rfl) (fun _ _ => trivial)
theorem rdPrs : Rd enc Go.Proofs.Tryz.prog W 22 1 aPrs (fun _ => True) :=
  (Rd.slice Go.Proofs.Tryz.underlying22 (by kernel_rfl : Program.cellsOf Go.Proofs.Tryz.prog 75 = 3) (by decide) rdPr).map id (fun _ => rfl) (fun _ _ => trivial)
theorem rdTr : Rd enc Go.Proofs.Tryz.prog W 24 1 aTr (fun _ => True) :=
  (Rd.struct (ts := [22]) Go.Proofs.Tryz.underlying24 rfl rfl (by kernel_rfl) (by kernel_rfl) (.cons rdPrs (fun _ => ⟨rfl, rfl⟩) .nil)).map (fun (y : List Pr × Unit) => y.1) (fun _ => rfl) (fun _ _ => trivial)
end
end Go.AL
end
section
/- What is read of arguments that are trees. No condition. -/
namespace Go.AL
open Go Go.RowKit
set_option maxRecDepth 100000
def aPdC : Pd → List AV | .mk k n p q s l => [ai k, ai n, ai p, ai q, astr s, .sl 6 (l.map aPd)]
theorem aPd_agg : ∀ y, aPd y = .agg (aPdC y) := fun ⟨k, n, p, q, s, l⟩ => by rw [aPd_mk]; rfl
section
variable {H : Type} {enc : TypeId × Value → H} {W : World}
theorem rdPredN : ∀ N, RdF enc Go.Proofs.Tryz.prog W N 27 6 aPd (fun _ => True)
  | 0 => .zero
  | N + 1 =>
    (RdF.struct (ts := [3, 3, 3, 3, 9, 25]) Go.Proofs.Tryz.underlying27 rfl rfl (by kernel_rfl) (by kernel_rfl)
      (.cons ((Rd.int Go.Proofs.Tryz.underlying3).bounded N) (fun _ => ⟨rfl, rfl⟩) (.cons ((Rd.int Go.Proofs.Tryz.underlying3).bounded N) (fun _ => ⟨rfl, rfl⟩) (.cons ((Rd.int Go.Proofs.Tryz.underlying3).bounded N) (fun _ => ⟨rfl, rfl⟩)
        (.cons ((Rd.int Go.Proofs.Tryz.underlying3).bounded N) (fun _ => ⟨rfl, rfl⟩) (.cons ((Rd.str Go.Proofs.Tryz.underlying9).bounded N) (fun _ => ⟨rfl, rfl⟩)
          (.cons ((RdF.slice Go.Proofs.Tryz.underlying25 (by kernel_rfl : Program.cellsOf Go.Proofs.Tryz.prog 27 = 6) (by decide) (rdPredN N)).mono (Nat.le_succ N)) (fun _ => ⟨rfl, rfl⟩) .nil))))))).map
      (fun (y : Int × Int × Int × Int × ByteArray × List Pd × Unit) => Pd.mk y.1 y.2.1 y.2.2.1 y.2.2.2.1 y.2.2.2.2.1 y.2.2.2.2.2.1) (fun _ => (aPd_mk _ _ _ _ _ _).symm) (fun _ _ => trivial)
theorem rdPred : Rd enc Go.Proofs.Tryz.prog W 27 6 aPd (fun _ => True) := RdF.all rdPredN
end
end Go.AL
end
section
/- The layer AL: a listed table of integers, as what a package-level variable holds. No condition. -/
namespace Go.AL
open Go Go.RowKit
theorem Rel.tab {P : Program} {W : World} {name : String} {zs : List Int} {g : Nat} (h : Lib.TabIs P W name .i64 zs) (hg : P.globalNamed name = some g) (hz : 0 < zs.length) :
    Rel W (fun b => b < W.heap.size) (.rp 1 (zs.map fun z => .v (.int .i64 z)) 0 0) (.pointer (some ⟨g, 0, none⟩)) := by
  have hA : g < W.heap.size := by
    have hu := h.cell hg 0 hz
    unfold World.cell? at hu
    cases hb : W.heap[g]? with
    | none => simp [hb] at hu
    | some o => exact (Array.getElem?_eq_some_iff.1 hb).1
  have := Rel.rp (w := W) (A := fun b => b < W.heap.size) 1 (zs.map fun z => .v (.int .i64 z)) 0 0 g 0 (fun i => .int .i64 (zs.getD i 0)) hA
    (fun x hx => by obtain ⟨z, _, rfl⟩ := List.mem_map.1 hx; exact ⟨rfl, rfl⟩)
    (fun i hi => by
      rw [List.length_map] at hi
      have := h.cell hg i (by omega)
      simpa using this)
    (fun i x j y hx hy => by
      rw [List.getElem?_map, Option.map_eq_some_iff] at hx
      obtain ⟨z, hz, rfl⟩ := hx
      cases j with
      | succ j => cases hy
      | zero =>
        cases hy
        have e : zs.getD i 0 = z := by rw [List.getD_eq_getElem?_getD, hz]; rfl
        simp only [Nat.mul_one, Nat.add_zero, e]
        exact .v _)
  exact this
end Go.AL
end
