/- Texts of this claim's proof: WQj, WQk, WQl, WQm. No condition. -/
import Derived.Test.YtmnabhohlflkkaaGreatM11
import Derived.Test.YtmnabhohlflkkaaGreatM10
import Derived.Test.YtmnabhohlflkkaaGreatM4
section
/- The package run: First, Through, and the steps of a list of cuts. No condition. -/
namespace Go.AL
open Go Go.RowKit
set_option maxRecDepth 4000
noncomputable def frsF (ps : List Pr) : List (List Int) := if validF ps = true then wlkF ps (fun _ => true) else []
noncomputable def vldE (ps : List Pr) : Int := if validF ps = true then 0 else 1
noncomputable def thrE (ps : List Pr) (c : List Int) : Int := if validF ps = true then (if isF ps c = true then 0 else 18) else 1
noncomputable def thrF (ps : List Pr) (c : List Int) : List (List Int) := if thrE ps c = 0 then wlkF ps (fun d => leqF d c || leqF c d) else []
def idxL (n : Nat) : List Int := (List.range n).map fun (i : Nat) => (i : Int)
theorem run_indices (n : Nat) (hn : n ≤ 1000000) : PC Go.Proofs.Tryz.prog 108 [ai (n : Nat)] (aInts (idxL n)) := by
  refine PC.enter 18 [.tmp 2] [] Go.Proofs.Tryz.func108 rfl rfl rfl rfl rfl (by simp) (AWp.of ?_); simp only [go_sem]
  repeat (first | ((with_reducible refine AWp.ofC ?_ ?_); (focus exact rfl); simp only [go_sem]) | ((with_reducible refine an ?_ ?_); focus exact Au))
  repeat ((with_reducible refine an ?_ ?_); focus exact As)
  intro b6
  repeat (first | ((with_reducible refine AWp.ofC ?_ ?_); (focus exact rfl); simp only [go_sem]) | ((with_reducible refine an ?_ ?_); focus exact Au))
  refine AWp.range' n [] [3, 8] (fun k vs L => vs = [] ∧ L = [(b6, .row 3 1 ((List.range n).map fun i => ai (if i < k then (i : Int) else 0)) n)]) (by omega) rfl rfl rfl ⟨rfl, ?_⟩ ?_ ?_
  · congr 4
    exact (List.eq_replicate_iff.2 ⟨by simp, fun x hx => by
      obtain ⟨p, _, rfl⟩ := List.mem_map.1 hx
      rw [if_neg (by omega)]⟩).symm
  · rintro k vs L hk - ⟨rfl, rfl⟩
    have hrl : ((List.range n).map fun i => ai (if i < k then (i : Int) else 0)).length = n := by simp
    have hg : ((List.range n).map fun i => ai (if i < k then (i : Int) else 0)).getD k .any = ai (if k < k then (k : Int) else 0) := by
      rw [List.getD_eq_getElem?_getD, List.getElem?_map, List.getElem?_range hk]; rfl
    have hst : ((List.range n).map fun i => ai (if i < k then (i : Int) else 0)).set k (ai k) = (List.range n).map fun i => ai (if i < k + 1 then (i : Int) else 0) := by
      rw [map_range_set n k]
      refine List.map_congr_left fun i _ => ?_
      by_cases e : i = k
      · subst e; rw [if_pos rfl, if_pos (by omega)]
      · rw [if_neg e]
        by_cases h : i < k
        · rw [if_pos h, if_pos (by omega)]
        · rw [if_neg h, if_neg (by omega)]
    simp only [go_sem]
    repeat (first | ((with_reducible refine AWp.ofC ?_ ?_); (focus exact rfl); simp only [go_sem, hrl, hg]) | ((with_reducible refine an ?_ ?_); focus exact Au))
    exact ⟨_, List.Sublist.refl _, by rw [← hst]⟩
  · rintro vs L - ⟨rfl, rfl⟩
    have hst : ((List.range n).map fun i => ai (if i < n then (i : Int) else 0)) = (idxL n).map ai := by
      unfold idxL
      rw [List.map_map]
      refine List.map_congr_left fun i hi => ?_
      rw [if_pos (List.mem_range.1 hi)]; rfl
    rw [hst]
    simp only [go_sem]
    repeat (first | ((with_reducible refine AWp.ofC ?_ ?_); (focus exact rfl); simp only [go_sem]) | ((with_reducible refine an ?_ ?_); focus exact Au))
    refine ret_view [true] ?_; simp only [go_sem]
    exact Vw.ofLs (if_pos rfl) (by simp [idxL])
theorem run_steps1 (ps : List Pr) (hs : Sm ps) (hv : validF ps = true) (r : List (List Int)) (i : Nat) (hi : i < r.length) (hc : isF ps r[i] = true) (b : List Int) (hb : b.length ≤ 1000000) (p : Nat) (hp : p < ps.length) :
    PC Go.Proofs.Tryz.prog 109 [ai (p : Nat), .rp 1 [aRs ps] 0 0, .rp 1 [aRows r] 0 0, .rp 1 [ai i] 0 0, .rp 1 [aInts b] 0 0] (ab (rdyF ps r[i] p && decide (b = stpC r[i] p))) := by
  have hg := getD_map (f := aInts) hi
  have hcl := (isF_iff.1 hc).1
  have hcb := isF_cb hs hc
  have hmay := run_may ps hs hv r[i] hc p
  rw [mayF_nat hcl (by omega)] at hmay
  have hne := run_next r[i] hcb.1 hcb.2 p (by omega)
  have heq := ints_equal b (stpC r[i] p) hb
  have haR : ∀ x : List (List Int), aRows x = .sl 1 (x.map aInts) := fun _ => rfl
  unfold aRs at hmay ⊢
  generalize r[i] = c at *
  refine PC.enter 24 [.tmp 6] [] Go.Proofs.Tryz.func109 rfl rfl rfl rfl rfl (by simp) (AWp.of ?_); simp only [go_sem]
  repeat (first | ((with_reducible refine AWp.ofC ?_ ?_); (focus exact rfl); simp only [go_sem, hg, haR]) | ((with_reducible refine an ?_ ?_); focus exact Au))
  refine AWp.seq ?_
  repeat (first | (with_reducible refine AWp.seq ?_) | (with_reducible refine AWp.block ?_))
  refine AWp.read mixed [0, 1, 2, 3, 4, 5, 6, 7, 8, 9, 10, 11, 12, 13, 14, 15, 16, 17] (by kernel_rfl) ?_; simp only [go_sem, hg]
  repeat ((with_reducible refine an ?_ ?_); focus exact As)
  refine GCall.use (ab (rdyF ps c p)) (fun _ => ⟨At, (hmay).val.use ⟨rfl, rfl⟩⟩) ?_; simp only [go_sem, hg]
  repeat ((with_reducible refine an ?_ ?_); focus exact As)
  refine GCall.use (aInts (stpC c p)) (fun _ => ⟨At, (hne).val.use ⟨rfl, rfl⟩⟩) ?_; simp only [go_sem]
  repeat ((with_reducible refine an ?_ ?_); focus exact As)
  refine GCall.use (ab (decide (b = stpC c p))) (fun _ => ⟨At, (heq).val.use ⟨rfl, rfl⟩⟩) ?_; simp only [go_sem]
  repeat (first | ((with_reducible refine AWp.ofC ?_ ?_); (focus exact rfl); simp only [go_sem]) | ((with_reducible refine an ?_ ?_); focus exact Au))
  refine ret_eq ?_; simp only [go_sem]
def oI : Option Nat → Int
  | some i => i
  | none => -1
theorem idxL_find (n : Nat) (q : Nat → Bool) (P : Int → Bool) (h : ∀ i, i < n → P (i : Nat) = q i) : oI ((idxL n).findIdx? P) = oI ((List.range n).find? q) := by
  have hl : (idxL n).length = n := by simp [idxL]
  have hget : ∀ (i : Nat) (hi : i < (idxL n).length), (idxL n)[i] = (i : Int) := fun i hi => by simp [idxL]
  cases hf : (List.range n).find? q with
  | none =>
    have : (idxL n).findIdx? P = none := by
      rw [List.findIdx?_eq_none_iff]
      intro x hx
      obtain ⟨i, hi, rfl⟩ := List.getElem_of_mem hx
      rw [hget i hi, h i (by omega)]
      have := List.find?_eq_none.1 hf i (List.mem_range.2 (by omega))
      simpa using this
    rw [this]
  | some k =>
    rw [List.find?_range_eq_some] at hf
    obtain ⟨f1, f2, f3⟩ := hf
    have hk := List.mem_range.1 f2
    have : (idxL n).findIdx? P = some k := by
      rw [List.findIdx?_eq_some_iff_getElem]
      refine ⟨by omega, by rw [hget k (by omega), h k hk]; exact f1, fun j hj => ?_⟩
      rw [hget j (by omega), h j (by omega)]
      have := f3 j hj
      simpa using this
    rw [this]
theorem run_stepIx (ps : List Pr) (hn : ps.length ≤ 8) (c b : List Int) (caps : List AV) (hI : ∀ p : Nat, p < ps.length → PC Go.Proofs.Tryz.prog 109 (ai p :: caps) (ab (rdyF ps c p && decide (b = stpC c p)))) :
    PC Go.Proofs.Tryz.prog 107 [aInts (idxL ps.length), .clo 109 caps] (ai (oI (stpP ps c b))) := by
  have h := ints_indexFunc (idxL ps.length) (by unfold idxL; simp; omega) (.clo 109 caps) rfl (fun z => rdyF ps c z.toNat && decide (b = stpC c z.toNat)) (fun x hx => by
    unfold idxL at hx
    obtain ⟨i, hi, rfl⟩ := List.mem_map.1 hx
    exact PC.clo (args := [ai i]) (hI i (List.mem_range.1 hi)))
  have e := idxL_find ps.length (fun p => rdyF ps c p && decide (b = stpC c p)) (fun z => rdyF ps c z.toNat && decide (b = stpC c z.toNat)) (fun i _ => rfl)
  have e2 : oI ((List.range ps.length).find? fun p => rdyF ps c p && decide (b = stpC c p)) = oI (stpP ps c b) := rfl
  rw [← e2, ← e]
  generalize (fun z : Int => rdyF ps c z.toNat && decide (b = stpC c z.toNat)) = P at *
  cases hf : (idxL ps.length).findIdx? P with
  | none => rw [hf] at h; exact h
  | some i => rw [hf] at h; exact h
def stpsR (ps : List Pr) (r : List (List Int)) : List Int := ((stpsF ps r).getD []).map fun (p : Nat) => (p : Int)
set_option maxHeartbeats 1000000 in
theorem run_steps (ps : List Pr) (hs : Sm ps) (hv : validF ps = true) (r : List (List Int)) (hl : r.length ≤ 1000000) (hx : ∀ x ∈ r, x.length ≤ 1000000) :
    PC Go.Proofs.Tryz.prog 78 [aRs ps, aRows r] (.tup [aInts (stpsR ps r), ab (stpsF ps r).isSome]) := by
  have hz := run_zero ps hv
  have hfu := run_full ps hs hv
  have haR : ∀ x : List (List Int), aRows x = .sl 1 (x.map aInts) := fun _ => rfl
  cases r with
  | nil =>
    have e1 : stpsR ps [] = [] := rfl
    have e2 : (stpsF ps []).isSome = false := rfl
    rw [e1, e2]
    have z0 : (((0 : Nat) : Int) = 0) = True := eq_true rfl
    unfold aRs
    refine PC.enter 58 [.tmp 4, .tmp 5] [2, 3, 7, 8, 54] Go.Proofs.Tryz.func78 rfl rfl rfl rfl rfl (by simp) (AWp.of ?_); simp only [go_sem]
    repeat (first | ((with_reducible refine AWp.ofC ?_ ?_); (focus exact rfl); simp only [go_sem]) | ((with_reducible refine an ?_ ?_); focus exact Au))
    refine AWp.seq (AWp.seq ?_)
    repeat (first | (with_reducible refine AWp.seq ?_) | (with_reducible refine AWp.block ?_))
    refine AWp.read mixed [0, 1, 2, 3, 4, 5, 6, 7, 8, 9, 10, 11, 12, 13, 14, 15, 16, 17, 18, 19, 20, 21, 22, 23] (by kernel_rfl) ?_; simp only [go_sem, List.getD_nil]
    repeat ((with_reducible refine an ?_ ?_); focus exact As)
    refine GCall.use (aInts []) (fun h => absurd rfl h) ?_
    simp only [go_sem]
    refine GCall.use (ab false) (fun h => absurd rfl h) ?_
    simp only [go_sem, List.getD_nil]
    repeat ((with_reducible refine an ?_ ?_); focus exact As)
    refine GCall.use (aInts []) (fun h => False.elim h) ?_
    simp only [go_sem]
    refine GCall.use (ab false) (fun h => False.elim h) ?_
    simp only [go_sem, z0]
    repeat (first | ((with_reducible refine AWp.ofC ?_ ?_); (focus exact rfl); simp only [go_sem]) | ((with_reducible refine an ?_ ?_); focus exact Au))
    refine ret_view [] ?_; simp only [go_sem]
    exact .mkTup (Vws.cons (.nil 1) (Vws.refl _))
  | cons a r =>
    have hal := hx a List.mem_cons_self
    obtain ⟨lst, hlst⟩ : ∃ lst, (a :: r)[r.length]'(by simp) = lst := ⟨_, rfl⟩
    have hll : lst.length ≤ 1000000 := hx lst (by rw [← hlst]; exact List.getElem_mem _)
    have hgl : (a :: r).getLast? = some lst := by
      rw [List.getLast?_eq_getElem?, ← hlst, List.getElem?_eq_getElem (by simp)]
      congr 1
    have hsF : stpsF ps (a :: r) = if a = zeroC ps ∧ lst = fullC ps then stpsG ps a r else none := by
      show (if a = zeroC ps ∧ (a :: r).getLast? = some (fullC ps) then stpsG ps a r else none) = _
      rw [hgl]
      congr 1
      exact propext ⟨fun h => ⟨h.1, Option.some.inj h.2⟩, fun h => ⟨h.1, congrArg some h.2⟩⟩
    have he1 := ints_equal a (zeroC ps) hal
    have he2 := ints_equal lst (fullC ps) hll
    have hR0 : ((a :: r).map aInts).getD 0 .any = aInts a := rfl
    have hRl : ((a :: r).map aInts).getD r.length .any = aInts lst := by
      rw [List.getD_eq_getElem?_getD, List.getElem?_map, List.getElem?_eq_getElem (by simp), hlst]; rfl
    have hRn : ((a :: r).map aInts).length = r.length + 1 := by rw [List.length_map, List.length_cons]
    have hRd : ((a :: r).map aInts).drop 1 = r.map aInts := rfl
    have hrl : r.length ≤ 1000000 := by rw [List.length_cons] at hl; omega
    have hix : (((r.length + 1 : Nat) : Int) - 1).toNat = r.length := by omega
    have hn0 : ¬ (((r.length + 1 : Nat) : Int) = 0) := by omega
    rw [haR]
    by_cases hc : a = zeroC ps ∧ lst = fullC ps
    · rw [if_pos hc] at hsF
      obtain ⟨rfl, rfl⟩ := hc
      rw [decide_eq_true rfl] at he1 he2
      have hI := fun (i : Nat) (hi : i < (zeroC ps :: r).length) hc b hb p hp => run_steps1 ps hs hv (zeroC ps :: r) i hi hc b hb p hp
      rw [haR] at hI
      have hin := run_indices ps.length (by have := (valid_len hv).2; omega)
      generalize hR : (zeroC ps :: r).map aInts = R at *
      unfold aRs at *
      refine PC.enter 58 [.tmp 4, .tmp 5] [2, 3, 7, 8, 54] Go.Proofs.Tryz.func78 rfl rfl rfl rfl rfl (by simp) (AWp.of ?_); simp only [go_sem]
      repeat (first | ((with_reducible refine AWp.ofC ?_ ?_); (focus exact rfl); simp only [go_sem]) | ((with_reducible refine an ?_ ?_); focus exact Au))
      refine AWp.seq (AWp.seq ?_)
      repeat (first | (with_reducible refine AWp.seq ?_) | (with_reducible refine AWp.block ?_))
      refine AWp.read mixed [0, 1, 2, 3, 4, 5, 6, 7, 8, 9, 10, 11, 12, 13, 14, 15, 16, 17, 18, 19, 20, 21, 22, 23] (by kernel_rfl) ?_; simp only [go_sem, hR0, hRn, hn0]
      repeat ((with_reducible refine an ?_ ?_); focus exact As)
      repeat ((with_reducible refine an ?_ ?_); focus exact As)
      refine GCall.use (aInts (zeroC ps)) (fun _ => ⟨At, (hz).val.use ⟨rfl, rfl⟩⟩) ?_; simp only [go_sem]
      repeat ((with_reducible refine an ?_ ?_); focus exact As)
      refine GCall.use (ab true) (fun _ => ⟨At, (he1).val.use ⟨rfl, rfl⟩⟩) ?_; simp only [go_sem, hRl, hRn, hix]
      repeat ((with_reducible refine an ?_ ?_); focus exact As)
      repeat ((with_reducible refine an ?_ ?_); focus exact As)
      refine GCall.use (aInts (fullC ps)) (fun _ => ⟨At, (hfu).val.use ⟨rfl, rfl⟩⟩) ?_; simp only [go_sem]
      repeat ((with_reducible refine an ?_ ?_); focus exact As)
      refine GCall.use (ab true) (fun _ => ⟨At, (he2).val.use ⟨rfl, rfl⟩⟩) ?_; simp only [go_sem]
      repeat (first | ((with_reducible refine AWp.ofC ?_ ?_); (focus exact rfl); simp only [go_sem, hRd]) | ((with_reducible refine an ?_ ?_); focus exact Au))
      refine AWp.range' r.length [6] [2, 3, 35, 36] (fun k vs L => ∃ (l : List Nat) (v : AV), vs = [v] ∧ l.length = k ∧ isF ps ((zeroC ps :: r).getD k []) = true ∧ stpsG ps (zeroC ps) r = (stpsG ps ((zeroC ps :: r).getD k []) (r.drop k)).map (l ++ ·) ∧ AppSt 3 1 (l.map fun (p : Nat) => ai p) v L) (by omega) rfl rfl rfl ⟨[], _, rfl, rfl, zeroC_is ps, ?_, .nil⟩ ?_ ?_
      · show stpsG ps (zeroC ps) r = (stpsG ps (zeroC ps) r).map ([] ++ ·)
        cases stpsG ps (zeroC ps) r <;> rfl
      · rintro k vs L hk - ⟨l, v, rfl, hlk, hck, hst, hA⟩
        have hgk := getD_map (f := aInts) hk
        have hgc : (zeroC ps :: r).getD k [] = (zeroC ps :: r)[k]'(by rw [List.length_cons]; omega) := by
          rw [List.getD_eq_getElem?_getD, List.getElem?_eq_getElem]; rfl
        have hgc2 : (zeroC ps :: r).getD (k + 1) [] = r[k] := by
          rw [List.getD_cons_succ, List.getD_eq_getElem?_getD, List.getElem?_eq_getElem hk]; rfl
        have hdr : r.drop k = r[k] :: r.drop (k + 1) := by rw [List.getElem_cons_drop]
        have hIk := hI k (by rw [List.length_cons]; omega) (by rw [← hgc]; exact hck) r[k] (hx _ (List.mem_cons_of_mem _ (List.getElem_mem hk)))
        rw [← hgc] at hIk
        rw [hdr] at hst
        rw [hgc2]
        generalize (zeroC ps :: r).getD k [] = c at *
        generalize r[k] = b at *
        have e1 : stpsG ps c (b :: r.drop (k + 1)) = match stpP ps c b with
          | none => none
          | some p => (stpsG ps b (r.drop (k + 1))).map (p :: ·) := rfl
        rw [e1] at hst
        have hidx := run_stepIx ps (valid_len hv).2 c b [.rp 1 [.rp 2 [.agg [.sl 3 (ps.map aPr), .sl 1 (aNeeds ps ps)]] 0 0] 0 0, .rp 1 [.sl 1 R] 0 0, .rp 1 [ai (k : Nat)] 0 0, .rp 1 [aInts b] 0 0] hIk
        have hnl := needs_len ps
        simp only [go_sem]
        cases hsp : stpP ps c b with
        | none =>
          rw [hsp] at hst hidx
          have hst : stpsG ps (zeroC ps) r = none := hst
          change PC _ _ _ (ai (-1)) at hidx
          have e2 : stpsR ps (zeroC ps :: r) = [] := by unfold stpsR; rw [hsF, hst]; rfl
          have e3 : (stpsF ps (zeroC ps :: r)).isSome = false := by rw [hsF, hst]; rfl
          rw [e2, e3]
          rcases hA.inv with ⟨e5, rfl, rfl⟩ | ⟨bo, cap, rfl, rfl⟩
          · repeat (first | ((with_reducible refine AWp.ofC ?_ ?_); (focus exact rfl); simp only [go_sem, hgk]) | ((with_reducible refine an ?_ ?_); focus exact Au))
            intro b7 b8 g8
            have n1 : ¬ b7 = b8 := by omega
            have n2 : ¬ b8 = b7 := by omega
            simp only [go_sem, n1]
            repeat (first | ((with_reducible refine AWp.ofC ?_ ?_); (focus exact rfl); simp only [go_sem, hnl]) | ((with_reducible refine an ?_ ?_); focus exact Au))
            repeat ((with_reducible refine an ?_ ?_); focus exact As)
            refine (hin).val.use ?_; simp only [go_sem]
            repeat (first | ((with_reducible refine AWp.ofC ?_ ?_); (focus exact rfl); simp only [go_sem, hnl, n1, n2]) | ((with_reducible refine an ?_ ?_); focus exact Au))
            repeat ((with_reducible refine an ?_ ?_); focus exact As)
            refine (hidx).val.use ?_; simp only [go_sem]
            repeat (first | ((with_reducible refine AWp.ofC ?_ ?_); (focus exact rfl); simp only [go_sem, Int.reduceLT]) | ((with_reducible refine an ?_ ?_); focus exact Au))
            refine ret_view [] ?_; simp only [go_sem]
            exact .mkTup (Vws.cons (.nil 1) (Vws.refl _))
          · repeat (first | ((with_reducible refine AWp.ofC ?_ ?_); (focus exact rfl); simp only [go_sem, hgk]) | ((with_reducible refine an ?_ ?_); focus exact Au))
            intro b7 g7 b8 g8 g9
            have n1 : ¬ b7 = b8 := by omega
            have n2 : ¬ b8 = b7 := by omega
            have n3 : ¬ bo = b8 := by omega
            have n4 : ¬ b8 = bo := by omega
            have n5 : ¬ bo = b7 := by omega
            have n6 : ¬ b7 = bo := by omega
            simp only [go_sem, n1, n4]
            repeat (first | ((with_reducible refine AWp.ofC ?_ ?_); (focus exact rfl); simp only [go_sem, hnl]) | ((with_reducible refine an ?_ ?_); focus exact Au))
            repeat ((with_reducible refine an ?_ ?_); focus exact As)
            refine (hin).val.use ?_; simp only [go_sem]
            repeat (first | ((with_reducible refine AWp.ofC ?_ ?_); (focus exact rfl); simp only [go_sem, hnl, n1, n2]) | ((with_reducible refine an ?_ ?_); focus exact Au))
            repeat ((with_reducible refine an ?_ ?_); focus exact As)
            refine (hidx).val.use ?_; simp only [go_sem]
            repeat (first | ((with_reducible refine AWp.ofC ?_ ?_); (focus exact rfl); simp only [go_sem, Int.reduceLT]) | ((with_reducible refine an ?_ ?_); focus exact Au))
            refine ret_view [] ?_; simp only [go_sem]
            exact .mkTup (Vws.cons (.nil 1) (Vws.refl _))
        | some p =>
          rw [hsp] at hst hidx
          obtain ⟨p1, p2, p3⟩ := (stpP_some (isF_iff.1 hck).1).1 hsp
          have hbF : isF ps b = true := by rw [p3]; exact rdy_is p2
          have hst : stpsG ps (zeroC ps) r = (stpsG ps b (r.drop (k + 1))).map ((l ++ [p]) ++ ·) := by
            rw [hst]
            cases stpsG ps b (r.drop (k + 1)) with
            | none => rfl
            | some S => simp
          change PC _ _ _ (ai (p : Int)) at hidx
          have hp0 : ¬ (p : Int) < 0 := by omega
          have hlm : ((l ++ [p]).map fun (p : Nat) => ai p) = (l.map fun (p : Nat) => ai p) ++ [ai p] := by rw [List.map_append]; rfl
          have hll2 : (l.map fun (p : Nat) => ai p).length = k := by rw [List.length_map]; exact hlk
          have hl1 : (l ++ [p]).length = k + 1 := by rw [List.length_append, hlk]; rfl
          rcases hA.inv with ⟨e5, rfl, rfl⟩ | ⟨bo, cap, rfl, rfl⟩
          · repeat (first | ((with_reducible refine AWp.ofC ?_ ?_); (focus exact rfl); simp only [go_sem, hgk]) | ((with_reducible refine an ?_ ?_); focus exact Au))
            intro b7 b8 g8
            have n1 : ¬ b7 = b8 := by omega
            have n2 : ¬ b8 = b7 := by omega
            simp only [go_sem, n1]
            repeat (first | ((with_reducible refine AWp.ofC ?_ ?_); (focus exact rfl); simp only [go_sem, hnl]) | ((with_reducible refine an ?_ ?_); focus exact Au))
            repeat ((with_reducible refine an ?_ ?_); focus exact As)
            refine (hin).val.use ?_; simp only [go_sem]
            repeat (first | ((with_reducible refine AWp.ofC ?_ ?_); (focus exact rfl); simp only [go_sem, hnl, n1, n2]) | ((with_reducible refine an ?_ ?_); focus exact Au))
            repeat ((with_reducible refine an ?_ ?_); focus exact As)
            refine (hidx).val.use ?_; simp only [go_sem]
            repeat (first | ((with_reducible refine AWp.ofC ?_ ?_); (focus exact rfl); simp only [go_sem, hp0]) | ((with_reducible refine an ?_ ?_); focus exact Au))
            intro b' cap' hc'
            refine ⟨_, List.Sublist.refl _, l ++ [p], _, rfl, hl1, hbF, hst, ?_⟩
            rw [hlm, e5]
            exact .row _ _ _
          · repeat (first | ((with_reducible refine AWp.ofC ?_ ?_); (focus exact rfl); simp only [go_sem, hgk]) | ((with_reducible refine an ?_ ?_); focus exact Au))
            intro b7 g7 b8 g8 g9
            have n1 : ¬ b7 = b8 := by omega
            have n2 : ¬ b8 = b7 := by omega
            have n3 : ¬ bo = b8 := by omega
            have n4 : ¬ b8 = bo := by omega
            have n5 : ¬ bo = b7 := by omega
            have n6 : ¬ b7 = bo := by omega
            simp only [go_sem, n1, n4]
            repeat (first | ((with_reducible refine AWp.ofC ?_ ?_); (focus exact rfl); simp only [go_sem, hnl]) | ((with_reducible refine an ?_ ?_); focus exact Au))
            repeat ((with_reducible refine an ?_ ?_); focus exact As)
            refine (hin).val.use ?_; simp only [go_sem]
            repeat (first | ((with_reducible refine AWp.ofC ?_ ?_); (focus exact rfl); simp only [go_sem, hnl, n1, n2]) | ((with_reducible refine an ?_ ?_); focus exact Au))
            repeat ((with_reducible refine an ?_ ?_); focus exact As)
            refine (hidx).val.use ?_; simp only [go_sem]
            repeat (first | ((with_reducible refine AWp.ofC ?_ ?_); (focus exact rfl); simp only [go_sem, hp0]) | ((with_reducible refine an ?_ ?_); focus exact Au))
            intro b' cap' hc'
            refine ⟨_, List.Sublist.refl _, l ++ [p], _, rfl, hl1, hbF, hst, ?_⟩
            rw [hlm]
            exact AppSt.snoc b' cap' _ (by rw [List.length_map])
      · rintro vs L - ⟨l, v, rfl, hlk, hck, hst, hA⟩
        have e1 : stpsG ps (zeroC ps) r = some l := by
          rw [hst, List.drop_length]
          show some (l ++ []) = some l
          rw [List.append_nil]
        have e2 : stpsR ps (zeroC ps :: r) = l.map fun (p : Nat) => (p : Int) := by unfold stpsR; rw [hsF, e1]; rfl
        have e3 : (stpsF ps (zeroC ps :: r)).isSome = true := by rw [hsF, e1]; rfl
        rw [e2, e3]
        have e4 : (l.map fun (p : Nat) => (p : Int)).map ai = l.map fun (p : Nat) => ai p := by rw [List.map_map]; rfl
        rcases hA.inv with ⟨e5, rfl, rfl⟩ | ⟨bo, cap, rfl, rfl⟩
        · have : l = [] := List.map_eq_nil_iff.1 e5
          subst this
          simp only [go_sem]
          repeat (first | ((with_reducible refine AWp.ofC ?_ ?_); (focus exact rfl); simp only [go_sem]) | ((with_reducible refine an ?_ ?_); focus exact Au))
          refine ret_view [] ?_; simp only [go_sem]
          exact .mkTup (Vws.cons (.nil 1) (Vws.refl _))
        · simp only [go_sem]
          repeat (first | ((with_reducible refine AWp.ofC ?_ ?_); (focus exact rfl); simp only [go_sem]) | ((with_reducible refine an ?_ ?_); focus exact Au))
          refine ret_view [true] ?_; simp only [go_sem]
          rw [e4]
          exact .mkTup (Vws.cons (Vw.ofLs (if_pos rfl) (by rw [List.length_map])) (Vws.refl _))
    · rw [if_neg hc] at hsF
      have e1 : stpsR ps (a :: r) = [] := by unfold stpsR; rw [hsF]; rfl
      have e2 : (stpsF ps (a :: r)).isSome = false := by rw [hsF]; rfl
      rw [e1, e2]
      generalize (a :: r).map aInts = R at *
      unfold aRs at *
      refine PC.enter 58 [.tmp 4, .tmp 5] [2, 3, 7, 8, 54] Go.Proofs.Tryz.func78 rfl rfl rfl rfl rfl (by simp) (AWp.of ?_); simp only [go_sem]
      repeat (first | ((with_reducible refine AWp.ofC ?_ ?_); (focus exact rfl); simp only [go_sem]) | ((with_reducible refine an ?_ ?_); focus exact Au))
      refine AWp.seq (AWp.seq ?_)
      repeat (first | (with_reducible refine AWp.seq ?_) | (with_reducible refine AWp.block ?_))
      refine AWp.read mixed [0, 1, 2, 3, 4, 5, 6, 7, 8, 9, 10, 11, 12, 13, 14, 15, 16, 17, 18, 19, 20, 21, 22, 23] (by kernel_rfl) ?_; simp only [go_sem, hR0, hRn, hn0]
      repeat ((with_reducible refine an ?_ ?_); focus exact As)
      repeat ((with_reducible refine an ?_ ?_); focus exact As)
      refine GCall.use (aInts (zeroC ps)) (fun _ => ⟨At, (hz).val.use ⟨rfl, rfl⟩⟩) ?_; simp only [go_sem]
      by_cases ha : a = zeroC ps
      · subst ha
        have hlf : ¬ lst = fullC ps := fun h => hc ⟨rfl, h⟩
        rw [decide_eq_true rfl] at he1
        rw [decide_eq_false hlf] at he2
        repeat ((with_reducible refine an ?_ ?_); focus exact As)
        refine GCall.use (ab true) (fun _ => ⟨At, (he1).val.use ⟨rfl, rfl⟩⟩) ?_; simp only [go_sem, hRl, hRn, hix]
        repeat ((with_reducible refine an ?_ ?_); focus exact As)
        repeat ((with_reducible refine an ?_ ?_); focus exact As)
        refine GCall.use (aInts (fullC ps)) (fun _ => ⟨At, (hfu).val.use ⟨rfl, rfl⟩⟩) ?_; simp only [go_sem]
        repeat ((with_reducible refine an ?_ ?_); focus exact As)
        refine GCall.use (ab false) (fun _ => ⟨At, (he2).val.use ⟨rfl, rfl⟩⟩) ?_; simp only [go_sem]
        repeat (first | ((with_reducible refine AWp.ofC ?_ ?_); (focus exact rfl); simp only [go_sem]) | ((with_reducible refine an ?_ ?_); focus exact Au))
        refine ret_view [] ?_; simp only [go_sem]
        exact .mkTup (Vws.cons (.nil 1) (Vws.refl _))
      · rw [decide_eq_false ha] at he1
        repeat ((with_reducible refine an ?_ ?_); focus exact As)
        refine GCall.use (ab false) (fun _ => ⟨At, (he1).val.use ⟨rfl, rfl⟩⟩) ?_; simp only [go_sem, hRl, hRn, hix]
        repeat ((with_reducible refine an ?_ ?_); focus exact As)
        refine GCall.use (aInts []) (fun h => False.elim h) ?_
        simp only [go_sem]
        refine GCall.use (ab false) (fun h => False.elim h) ?_
        simp only [go_sem]
        repeat (first | ((with_reducible refine AWp.ofC ?_ ?_); (focus exact rfl); simp only [go_sem]) | ((with_reducible refine an ?_ ?_); focus exact Au))
        refine ret_view [] ?_; simp only [go_sem]
        exact .mkTup (Vws.cons (.nil 1) (Vws.refl _))
end Go.AL
end
section
/- The package run: Is, Events, Of. No condition. -/
namespace Go.AL
open Go Go.RowKit
set_option maxRecDepth 4000
noncomputable def isR (ps : List Pr) (r : List (List Int)) : Bool := validF ps && isRunF ps r
theorem run_Is (ps : List Pr) (hs : Sm ps) (r : List (List Int)) (hl : r.length ≤ 1000000) (hx : ∀ x ∈ r, x.length ≤ 1000000) : PC Go.Proofs.Tryz.prog 32 [aTr ps, aRows r] (ab (isR ps r)) := by
  have hva := trace_Valid ps hs
  unfold isR
  cases hv : validF ps with
  | false =>
    rw [hv] at hva
    refine PC.enter 18 [.tmp 4] [2] Go.Proofs.Tryz.func32 rfl rfl rfl rfl rfl (by simp) (AWp.of ?_); simp only [go_sem]
    repeat (first | ((with_reducible refine AWp.ofC ?_ ?_); (focus exact rfl); simp only [go_sem]) | ((with_reducible refine an ?_ ?_); focus exact Au))
    repeat ((with_reducible refine an ?_ ?_); focus exact As)
    refine (hva).val.use ?_; simp only [go_sem]
    repeat (first | ((with_reducible refine AWp.ofC ?_ ?_); (focus exact rfl); simp only [go_sem]) | ((with_reducible refine an ?_ ?_); focus exact Au))
    refine ret_eq ?_; simp only [go_sem]
  | true =>
    rw [hv] at hva
    have hop := run_open ps hs hv
    have hst := run_steps ps hs hv r hl hx
    rw [stpsF_run] at hst
    generalize stpsR ps r = S at *
    generalize isRunF ps r = b at *
    unfold aRs at hop hst
    refine PC.enter 18 [.tmp 4] [2] Go.Proofs.Tryz.func32 rfl rfl rfl rfl rfl (by simp) (AWp.of ?_); simp only [go_sem]
    repeat (first | ((with_reducible refine AWp.ofC ?_ ?_); (focus exact rfl); simp only [go_sem]) | ((with_reducible refine an ?_ ?_); focus exact Au))
    repeat ((with_reducible refine an ?_ ?_); focus exact As)
    refine (hva).val.use ?_; simp only [go_sem]
    repeat (first | ((with_reducible refine AWp.ofC ?_ ?_); (focus exact rfl); simp only [go_sem]) | ((with_reducible refine an ?_ ?_); focus exact Au))
    repeat ((with_reducible refine an ?_ ?_); focus exact As)
    refine (hop).val.use ?_; simp only [go_sem]
    repeat (first | ((with_reducible refine AWp.ofC ?_ ?_); (focus exact rfl); simp only [go_sem]) | ((with_reducible refine an ?_ ?_); focus exact Au))
    repeat ((with_reducible refine an ?_ ?_); focus exact As)
    refine (hst).val.use ?_; simp only [go_sem]
    repeat (first | ((with_reducible refine AWp.ofC ?_ ?_); (focus exact rfl); simp only [go_sem]) | ((with_reducible refine an ?_ ?_); focus exact Au))
    refine ret_eq ?_; simp only [go_sem]
noncomputable def evnE (ps : List Pr) (r : List (List Int)) : Int := if validF ps = true then (if isRunF ps r = true then 0 else 3) else 1
noncomputable def evnF (ps : List Pr) (r : List (List Int)) : List Eid := if evnE ps r = 0 then evtF r else []
noncomputable def ofVE (ps : List Pr) (l : List Eid) : Int := if validF ps = true then (if (ofF ps l).isSome = true then 0 else 11) else 1
noncomputable def ofVF (ps : List Pr) (l : List Eid) : List (List Int) := if ofVE ps l = 0 then (ofF ps l).getD [] else []
end Go.AL
end
section
/- Maps whose keys are texts. No condition. -/
namespace Go.AL
open Go Go.RowKit
theorem fits_str (s : ByteArray) : (KK.sc .str).fits (.string s) = true := rfl
attribute [go_sem] fits_str
/-- What a map with texts as keys gives, by its lookups. -/
structure MpS (ks : List Value) (vs : List AV) (z : AV) (f : ByteArray → AV) : Prop where
  fits : ks.all (KK.sc .str).fits = true
  len : vs.length = ks.length
  get : ∀ s, mget (.string s) ks vs z = f s
theorem MpS.nil (z : AV) : MpS [] [] z fun _ => z := ⟨rfl, rfl, fun _ => rfl⟩
theorem mfind_lt {k : Value} : ∀ {ks : List Value} {i : Nat}, mfind k ks = some i → i < ks.length
  | [], _, h => by cases h
  | k' :: r, i, h => by
    unfold mfind at h
    split at h
    · cases h; simp
    · split at h
      · rename_i j hj; cases h; have := mfind_lt hj; simp; omega
      · cases h
theorem seqB_dec' (a b : ByteArray) : seqB a b = decide (a = b) := seqB_dec a b
theorem keyB_str {s : ByteArray} {k : Value} (hk : (KK.sc .str).fits k = true) : keyB (.string s) k = true ↔ k = .string s := by
  have := vfits_inv (k := .str) (a := k) hk
  cases this with
  | str t =>
    show seqB s t = true ↔ _
    rw [seqB_dec', decide_eq_true_eq]
    exact ⟨fun h => by rw [h], fun h => by cases h; rfl⟩
theorem mfind_str {s : ByteArray} : ∀ {ks : List Value} (_ : ks.all (KK.sc .str).fits = true) {i : Nat}, mfind (.string s) ks = some i → ks[i]? = some (.string s)
  | [], _, _, h => by cases h
  | k' :: r, hf, i, h => by
    rw [List.all_cons, Bool.and_eq_true] at hf
    unfold mfind at h
    split at h
    · rename_i hk; cases h; rw [(keyB_str hf.1).1 hk]; rfl
    · split at h
      · rename_i j hj; cases h; exact mfind_str hf.2 hj
      · cases h
theorem mfind_app {s t : ByteArray} : ∀ {ks : List Value}, mfind (.string t) (ks ++ [.string s]) = match mfind (.string t) ks with
    | some i => some i
    | none => if t = s then some ks.length else none
  | [] => by
    show (if keyB (.string t) (.string s) = true then some 0 else none) = if t = s then some 0 else none
    show (if seqB t s = true then some 0 else none) = _
    rw [seqB_dec']
    by_cases h : t = s
    · rw [if_pos h, if_pos (decide_eq_true h)]
    · rw [if_neg h, if_neg (by rw [decide_eq_false h]; simp)]
  | k' :: r => by
    have ih := mfind_app (s := s) (t := t) (ks := r)
    rw [List.cons_append]
    unfold mfind
    by_cases h : keyB (.string t) k' = true
    · rw [if_pos h, if_pos h]
    · rw [if_neg h, if_neg h, ih]
      cases hm : mfind (.string t) r with
      | some i => rfl
      | none =>
        simp only
        by_cases e : t = s
        · rw [if_pos e, if_pos e]; simp
        · rw [if_neg e, if_neg e]
theorem MpS.put {ks : List Value} {vs : List AV} {z : AV} {f : ByteArray → AV} (h : MpS ks vs z f) (s : ByteArray) (x : AV) :
    ∃ ks' vs', mput (.string s) x ks vs = .amap ks' vs' ∧ MpS ks' vs' z fun t => if t = s then x else f t := by
  unfold mput
  cases hm : mfind (.string s) ks with
  | some i =>
    refine ⟨ks, vs.set i x, rfl, h.fits, by rw [List.length_set]; exact h.len, fun t => ?_⟩
    have hi := mfind_lt hm
    have hl := h.len
    unfold mget
    by_cases e : t = s
    · subst e
      rw [hm, if_pos rfl]
      simp only
      rw [List.getD_eq_getElem?_getD, List.getElem?_set, if_pos rfl, if_pos (by omega)]; rfl
    · rw [if_neg e, ← h.get t]
      unfold mget
      cases ht : mfind (.string t) ks with
      | none => rfl
      | some j =>
        simp only
        have h1 := mfind_str h.fits hm
        have h2 := mfind_str h.fits ht
        have hne : i ≠ j := fun e2 => by
          subst e2
          rw [h1] at h2
          exact e (by have := Option.some.inj h2; injection this with h3; exact h3.symm)
        rw [List.getD_eq_getElem?_getD, List.getElem?_set_ne hne, ← List.getD_eq_getElem?_getD]
  | none =>
    refine ⟨ks ++ [.string s], vs ++ [x], rfl, by rw [List.all_append, h.fits]; rfl, by rw [List.length_append, List.length_append, h.len]; rfl, fun t => ?_⟩
    unfold mget
    rw [mfind_app]
    by_cases e : t = s
    · subst e
      rw [hm, if_pos rfl]
      simp only
      rw [if_pos trivial, List.getD_eq_getElem?_getD, List.getElem?_append_right (by rw [h.len]; exact Nat.le_refl _), h.len, Nat.sub_self]; rfl
    · rw [if_neg e, ← h.get t]
      unfold mget
      cases ht : mfind (.string t) ks with
      | none => simp only; rw [if_neg e]
      | some j =>
        have hj := mfind_lt ht
        simp only
        rw [if_neg e, List.getD_eq_getElem?_getD, List.getElem?_append_left (by rw [h.len]; exact hj), ← List.getD_eq_getElem?_getD]
end Go.AL
end
section
/- The package run: how many runs. No condition. -/
namespace Go.AL
open Go Go.RowKit
set_option maxRecDepth 4000
def satV (n : Nat) : Int := if n ≤ 1125899906842625 then n else 1125899906842625
theorem satV_add (a b : Nat) : (if (1125899906842625 : Int) < satV a + satV b then (1125899906842625 : Int) else satV a + satV b) = satV (a + b) := by
  unfold satV
  split <;> split <;> split <;> split <;> omega
theorem satV_le (a : Nat) : 0 ≤ satV a ∧ satV a ≤ 1125899906842625 := by unfold satV; split <;> omega
/-- The sum over the processes below k. -/
def enS (ps : List Pr) (c : List Int) (k : Nat) : Nat := ((enF ps c k).map fun p => wayV ps (stpC c p)).sum
theorem enS_succ (ps : List Pr) (c : List Int) (k : Nat) : enS ps c (k + 1) = enS ps c k + if rdyF ps c k = true then wayV ps (stpC c k) else 0 := by
  unfold enS
  rw [enF_succ, List.map_append, List.sum_append]
  split <;> simp
noncomputable def cnE (ps : List Pr) : Int := if lstE ps ≠ 0 then lstE ps else if 1125899906842624 < wayV ps (zeroC ps) then 9 else 0
noncomputable def cnN (ps : List Pr) : Int := if cnE ps = 0 then (wayV ps (zeroC ps) : Int) else 0
set_option maxHeartbeats 1000000 in
theorem run_Count (ps : List Pr) (hs : Sm ps) : PC Go.Proofs.Tryz.prog 11 [aTr ps] (.tup [ai (cnN ps), ai (cnE ps)]) := by
  have hva := trace_Valid ps hs
  have hLi := cuts_List ps hs
  have haR : ∀ x : List (List Int), aRows x = .sl 1 (x.map aInts) := fun _ => rfl
  unfold aLst at hLi
  have hcE : cnE ps = if lstE ps ≠ 0 then lstE ps else if 1125899906842624 < wayV ps (zeroC ps) then 9 else 0 := rfl
  have hcN : cnN ps = if cnE ps = 0 then (wayV ps (zeroC ps) : Int) else 0 := rfl
  cases hv : validF ps with
  | false =>
    have e1 : lstE ps = 1 := by unfold lstE; rw [hv]; rfl
    rw [e1, if_pos (by decide)] at hcE
    rw [hcE, if_neg (by decide)] at hcN
    rw [hcE, hcN]
    rw [hv] at hva
    refine PC.enter 80 [.tmp 2, .tmp 3] [1] Go.Proofs.Tryz.func11 rfl rfl rfl rfl rfl (by simp) (AWp.of ?_); simp only [go_sem]
    repeat (first | ((with_reducible refine AWp.ofC ?_ ?_); (focus exact rfl); simp only [go_sem]) | ((with_reducible refine an ?_ ?_); focus exact Au))
    repeat ((with_reducible refine an ?_ ?_); focus exact As)
    refine (hva).val.use ?_; simp only [go_sem]
    repeat (first | ((with_reducible refine AWp.ofC ?_ ?_); (focus exact rfl); simp only [go_sem]) | ((with_reducible refine an ?_ ?_); focus exact Au))
    refine ret_eq ?_; simp only [go_sem]
  | true =>
    rw [hv] at hva
    by_cases hE0 : lstE ps = 0
    · have h5 := (lst_zero.1 hE0).2
      have hlF : lstF ps = cutsF ps := by unfold lstF; rw [if_pos hE0]
      rw [hlF, hE0] at hLi
      rw [if_neg (by simpa using hE0)] at hcE
      have hop := run_open ps hs hv
      have hz := run_zero ps hv
      have hfu := run_full ps hs hv
      have hmay := run_may ps hs hv
      have hl8 := (valid_len hv).2
      have hm : ∀ c, c ∈ cutsF ps ↔ isF ps c = true := fun c => mem_cutsF hv
      have hl0 := lst_len0 hv (l := cutsF ps) rfl
      have hlast := lst_last hv (l := cutsF ps) rfl
      have hstep := fun (i : Nat) (hi : i < (cutsF ps).length) p hp => idx_step hv (l := cutsF ps) rfl hi (p := p) hp
      have hwf : wayV ps (fullC ps) = 1 := wayV_full (fullC_sum ps)
      have hkf := run_key (fullC ps) (isF_cb hs (fullC_is hv)).1
      have hkz := run_key (zeroC ps) (isF_cb hs (zeroC_is ps)).1
      have hord := cuts_ord hv
      generalize cnE ps = ce at *
      generalize cnN ps = cn at *
      have hfst := lst_first hv (l := cutsF ps) rfl
      generalize cutsF ps = l at *
      obtain ⟨r, hr⟩ : ∃ r, r = aRs ps := ⟨_, rfl⟩
      have hrf : fo r = (True, r) := by rw [hr]; rfl
      rw [← hr] at hop hz hfu hmay
      clear hr
      refine PC.enter 80 [.tmp 2, .tmp 3] [1] Go.Proofs.Tryz.func11 rfl rfl rfl rfl rfl (by simp) (AWp.of ?_); simp only [go_sem]
      repeat (first | ((with_reducible refine AWp.ofC ?_ ?_); (focus exact rfl); simp only [go_sem]) | ((with_reducible refine an ?_ ?_); focus exact Au))
      repeat ((with_reducible refine an ?_ ?_); focus exact As)
      refine (hva).val.use ?_; simp only [go_sem]
      repeat (first | ((with_reducible refine AWp.ofC ?_ ?_); (focus exact rfl); simp only [go_sem]) | ((with_reducible refine an ?_ ?_); focus exact Au))
      repeat ((with_reducible refine an ?_ ?_); focus exact As)
      refine (hLi).val.use ?_; simp only [go_sem]
      repeat (first | ((with_reducible refine AWp.ofC ?_ ?_); (focus exact rfl); simp only [go_sem]) | ((with_reducible refine an ?_ ?_); focus exact Au))
      repeat ((with_reducible refine an ?_ ?_); focus exact As)
      refine (hop).val.use ?_; simp only [go_sem, hrf]
      repeat (first | ((with_reducible refine AWp.ofC ?_ ?_); (focus exact rfl); simp only [go_sem, hrf]) | ((with_reducible refine an ?_ ?_); focus exact Au))
      intro b25
      obtain ⟨ks, vs, hput, hMp⟩ := (MpS.nil (.v (.int .i64 0))).put (keyS (fullC ps)) (.v (.int .i64 1))
      repeat ((with_reducible refine an ?_ ?_); focus exact As)
      repeat ((with_reducible refine an ?_ ?_); focus exact As)
      refine (hfu).val.use ?_; simp only [go_sem]
      repeat ((with_reducible refine an ?_ ?_); focus exact As)
      refine (hkf).val.use ?_; simp only [go_sem, hput]
      repeat ((with_reducible refine an ?_ ?_); focus exact As)
      repeat (first | ((with_reducible refine AWp.ofC ?_ ?_); (focus exact rfl); simp only [go_sem]) | ((with_reducible refine an ?_ ?_); focus exact Au))
      have hix : ((l.length : Nat) : Int) - 2 = ((l.length - 1 : Nat) : Int) - 1 := by omega
      rw [hix]
      refine AWp.block (AWp.loopN [8] [4, 6, 7] (fun m us L => us = [ai ((m : Int) - 1)] ∧ m < l.length ∧ ∃ ks vs f, L = [(b25, .amap ks vs)] ∧ MpS ks vs (.v (.int .i64 0)) f ∧ ∀ j (hj : j < l.length), m ≤ j → f (keyS l[j]) = ai (satV (wayV ps l[j]))) (l.length - 1) ?_ ?_)
      · refine ⟨rfl, by omega, ks, vs, _, rfl, hMp, fun j hj hmj => ?_⟩
        have : j = l.length - 1 := by omega
        subst this
        rw [List.getD_eq_getElem?_getD, List.getElem?_eq_getElem hj] at hlast
        have hlast : l[l.length - 1] = fullC ps := hlast
        simp only [hlast, hwf]
        rw [if_pos trivial]
        rfl
      · rintro m us L - ⟨rfl, hml, ks, vs, f, rfl, hMp, hf⟩
        cases m with
        | zero =>
          have z : ¬ (0 : Int) ≤ ((0 : Nat) : Int) - 1 := by omega
          have h0 := hf 0 hl0 (Nat.le_refl _)
          rw [List.getD_eq_getElem?_getD, List.getElem?_eq_getElem hl0] at hfst
          have hfst : l[0] = zeroC ps := hfst
          rw [hfst] at h0
          have hg := hMp.get (keyS (zeroC ps))
          rw [h0] at hg
          by_cases hbg : 1125899906842624 < wayV ps (zeroC ps)
          · have h1 : (1125899906842624 : Int) < satV (wayV ps (zeroC ps)) := by unfold satV; split <;> omega
            rw [if_pos hbg] at hcE
            subst hcE
            rw [if_neg (by decide)] at hcN
            subst hcN
            simp only [go_sem]
            repeat (first | ((with_reducible refine AWp.ofC ?_ ?_); (focus exact rfl); simp only [go_sem, z, hrf]) | ((with_reducible refine an ?_ ?_); focus exact Au))
            repeat ((with_reducible refine an ?_ ?_); focus exact As)
            refine (hz).val.use ?_; simp only [go_sem]
            repeat ((with_reducible refine an ?_ ?_); focus exact As)
            refine (hkz).val.use ?_; simp only [go_sem, hg, hMp.fits]
            repeat ((with_reducible refine an ?_ ?_); focus exact As)
            repeat (first | ((with_reducible refine AWp.ofC ?_ ?_); (focus exact rfl); simp only [go_sem, h1]) | ((with_reducible refine an ?_ ?_); focus exact Au))
            refine ret_eq ?_; simp only [go_sem]
          · have h1 : ¬ (1125899906842624 : Int) < satV (wayV ps (zeroC ps)) := by unfold satV; split <;> omega
            have h2 : satV (wayV ps (zeroC ps)) = (wayV ps (zeroC ps) : Int) := by unfold satV; rw [if_pos (by omega)]
            rw [if_neg hbg] at hcE
            subst hcE
            rw [if_pos rfl] at hcN
            subst hcN
            simp only [go_sem]
            repeat (first | ((with_reducible refine AWp.ofC ?_ ?_); (focus exact rfl); simp only [go_sem, z, hrf]) | ((with_reducible refine an ?_ ?_); focus exact Au))
            repeat ((with_reducible refine an ?_ ?_); focus exact As)
            refine (hz).val.use ?_; simp only [go_sem]
            repeat ((with_reducible refine an ?_ ?_); focus exact As)
            refine (hkz).val.use ?_; simp only [go_sem, hg, hMp.fits]
            repeat ((with_reducible refine an ?_ ?_); focus exact As)
            repeat (first | ((with_reducible refine AWp.ofC ?_ ?_); (focus exact rfl); simp only [go_sem, h1]) | ((with_reducible refine an ?_ ?_); focus exact Au))
            refine ret_eq ?_; simp only [go_sem]
            rw [h2]
        | succ m =>
          have z : (0 : Int) ≤ (m : Int) := by omega
          have hm1 : ((m + 1 : Nat) : Int) - 1 = (m : Int) := by omega
          have hml2 : m < l.length := by omega
          have hcF : isF ps l[m] = true := (hm _).1 (List.getElem_mem hml2)
          have hcl := (isF_iff.1 hcF).1
          have hcb := isF_cb hs hcF
          have hgm := getD_map (f := aInts) hml2
          have hkm := run_key l[m] hcb.1
          have hcsum : l[m].sum < off ps ps.length := by
            have h1 := leq_sum (leq_full hcF)
            rw [fullC_sum] at h1
            have h2 : ¬ l[m].sum = off ps ps.length := fun e => by
              have h3 := (full_of_sum hcF).2 e
              rw [List.getD_eq_getElem?_getD, List.getElem?_eq_getElem (show l.length - 1 < l.length by omega)] at hlast
              have hlast : l[l.length - 1] = fullC ps := hlast
              have h4 := List.pairwise_iff_getElem.1 hord m (l.length - 1) hml2 (by omega) (by omega)
              rw [h3, hlast] at h4
              exact ordL_irr h4
            omega
          have hws := wayV_stp hcF hcsum
          have hstm := hstep m hml2
          have hbyt := isF_byte hv hcF
          have hmayc := fun p => hmay l[m] hcF p
          obtain ⟨c, hc⟩ : ∃ c, c = l[m] := ⟨_, rfl⟩
          rw [← hc] at hcF hcl hcb hgm hkm hcsum hws hstm hbyt hmayc
          rw [hm1]
          simp only [go_sem]
          repeat (first | ((with_reducible refine AWp.ofC ?_ ?_); (focus exact rfl); simp only [go_sem, z, hgm]) | ((with_reducible refine an ?_ ?_); focus exact Au))
          refine AWp.range' c.length [9] [4, 6, 7, 8, 41] (fun k us L => us = [ai (satV (enS ps c k))] ∧ L = [(b25, .amap ks vs)]) (by omega) rfl rfl rfl ⟨rfl, rfl⟩ ?_ ?_
          · rintro k us L hk - ⟨rfl, rfl⟩
            have hmp := hmayc k
            rw [mayF_nat hcl hk] at hmp
            have hne := run_next c hcb.1 hcb.2 k hk
            have hsu := enS_succ ps c k
            simp only [go_sem]
            repeat (first | ((with_reducible refine AWp.ofC ?_ ?_); (focus exact rfl); simp only [go_sem, hgm, hrf]) | ((with_reducible refine an ?_ ?_); focus exact Au))
            repeat ((with_reducible refine an ?_ ?_); focus exact As)
            refine (hmp).val.use ?_; simp only [go_sem]
            cases hr : rdyF ps c k with
            | true =>
              rw [hr, if_pos rfl] at hsu
              have hE : k ∈ enF ps c c.length := mem_enF.2 ⟨hk, hr⟩
              obtain ⟨s1, s2, s3⟩ := hstm k hE
              have hky := run_key (stpC c k) (by rw [stp_len]; exact hcb.1)
              have hg := hMp.get (keyS (stpC c k))
              have hfk := hf _ s2 (by omega)
              rw [s3] at hfk
              rw [hfk] at hg
              have hadd := satV_add (enS ps c k) (wayV ps (stpC c k))
              rw [← hsu] at hadd
              have b1 := satV_le (enS ps c k)
              have b2 := satV_le (wayV ps (stpC c k))
              generalize satV (enS ps c k) = x1 at *
              generalize satV (wayV ps (stpC c k)) = x2 at *
              generalize satV (enS ps c (k + 1)) = x3 at *
              repeat (first | ((with_reducible refine AWp.ofC ?_ ?_); (focus exact rfl); simp only [go_sem, hgm]) | ((with_reducible refine an ?_ ?_); focus exact Au))
              repeat ((with_reducible refine an ?_ ?_); focus exact As)
              refine (hne).val.use ?_; simp only [go_sem]
              repeat ((with_reducible refine an ?_ ?_); focus exact As)
              refine (hky).val.use ?_; simp only [go_sem, hg, hMp.fits]
              repeat ((with_reducible refine an ?_ ?_); focus exact As)
              repeat (first | ((with_reducible refine AWp.ofC ?_ ?_); (focus exact rfl); simp only [go_sem, hgm, hrf, hg]) | ((with_reducible refine an ?_ ?_); focus exact Au))
              exact ⟨_, List.Sublist.refl _, by rw [hadd], rfl⟩
            | false =>
              rw [hr, if_neg (by decide), Nat.add_zero] at hsu
              repeat (first | ((with_reducible refine AWp.ofC ?_ ?_); (focus exact rfl); simp only [go_sem, hgm]) | ((with_reducible refine an ?_ ?_); focus exact Au))
              exact ⟨_, List.Sublist.refl _, by rw [hsu]; rfl, rfl⟩
          · rintro us L - ⟨rfl, rfl⟩
            have hsu : enS ps c c.length = wayV ps c := by rw [hws]; rfl
            rw [hsu]
            obtain ⟨ks', vs', hput', hMp'⟩ := hMp.put (keyS c) (ai (satV (wayV ps c)))
            simp only [go_sem]
            repeat (first | ((with_reducible refine AWp.ofC ?_ ?_); (focus exact rfl); simp only [go_sem, hgm]) | ((with_reducible refine an ?_ ?_); focus exact Au))
            repeat ((with_reducible refine an ?_ ?_); focus exact As)
            refine (hkm).val.use ?_; simp only [go_sem, hput', hMp.fits]
            repeat ((with_reducible refine an ?_ ?_); focus exact As)
            repeat (first | ((with_reducible refine AWp.ofC ?_ ?_); (focus exact rfl); simp only [go_sem]) | ((with_reducible refine an ?_ ?_); focus exact Au))
            refine ⟨_, List.Sublist.refl _, m, by omega, by congr 3, by omega, ks', vs', _, rfl, hMp', fun j hj hmj => ?_⟩
            by_cases e : keyS l[j] = keyS c
            · rw [if_pos e]
              have hjF : isF ps l[j] = true := (hm _).1 (List.getElem_mem hj)
              rw [keyS_inj (isF_byte hv hjF) hbyt e]
            · rw [if_neg e]
              have hne : j ≠ m := fun e2 => by subst e2; exact e (by rw [hc])
              exact hf j hj (by omega)
    · have e1 : cnE ps = lstE ps := by rw [hcE, if_pos hE0]
      have e2 : cnN ps = 0 := by rw [hcN, e1, if_neg hE0]
      rw [e1, e2]
      refine PC.enter 80 [.tmp 2, .tmp 3] [1] Go.Proofs.Tryz.func11 rfl rfl rfl rfl rfl (by simp) (AWp.of ?_); simp only [go_sem]
      repeat (first | ((with_reducible refine AWp.ofC ?_ ?_); (focus exact rfl); simp only [go_sem]) | ((with_reducible refine an ?_ ?_); focus exact Au))
      repeat ((with_reducible refine an ?_ ?_); focus exact As)
      refine (hva).val.use ?_; simp only [go_sem]
      repeat (first | ((with_reducible refine AWp.ofC ?_ ?_); (focus exact rfl); simp only [go_sem]) | ((with_reducible refine an ?_ ?_); focus exact Au))
      repeat ((with_reducible refine an ?_ ?_); focus exact As)
      refine (hLi).val.use ?_; simp only [go_sem]
      repeat (first | ((with_reducible refine AWp.ofC ?_ ?_); (focus exact rfl); simp only [go_sem, hE0]) | ((with_reducible refine an ?_ ?_); focus exact Au))
      refine ret_eq ?_; simp only [go_sem]
end Go.AL
end
