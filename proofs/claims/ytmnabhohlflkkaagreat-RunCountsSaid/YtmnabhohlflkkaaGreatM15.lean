/- Texts of this claim's proof: WQj+1, WQk+1. No condition. -/
import Derived.Test.YtmnabhohlflkkaaGreatM0
import Derived.Test.YtmnabhohlflkkaaGreatM1
import Derived.Test.YtmnabhohlflkkaaGreatM2
import Derived.Test.YtmnabhohlflkkaaGreatM3
import Derived.Test.YtmnabhohlflkkaaGreatM4
import Derived.Test.YtmnabhohlflkkaaGreatM5
import Derived.Test.YtmnabhohlflkkaaGreatM6
import Derived.Test.YtmnabhohlflkkaaGreatM7
import Derived.Test.YtmnabhohlflkkaaGreatM8
import Derived.Test.YtmnabhohlflkkaaGreatM9
import Derived.Test.YtmnabhohlflkkaaGreatM10
import Derived.Test.YtmnabhohlflkkaaGreatM11
import Derived.Test.YtmnabhohlflkkaaGreatM12
import Derived.Test.YtmnabhohlflkkaaGreatM13
import Derived.Test.YtmnabhohlflkkaaGreatM14
section
namespace Go.AL
open Go Go.RowKit
set_option maxRecDepth 4000
theorem run_indices (n : Nat) (hn : n ≤ 1000000) : PC Go.Proofs.Tryz.prog 108 [ai (n : Nat)] (aInts (idxL n)) := by
  refine PC.enter 18 [.tmp 2] [] Go.Proofs.Tryz.func108 rfl rfl rfl rfl rfl (by simp) (AWp.of ?_); simp only [go_sem]
  repeat (first | ((with_reducible refine AWp.ofC ?_ ?_); (focus exact rfl); simp only [go_sem]) | ((with_reducible refine an ?_ ?_); focus exact Au))
  repeat ((with_reducible refine an ?_ ?_); focus exact As)
  intro b6
  repeat (first | ((with_reducible refine AWp.ofC ?_ ?_); (focus exact rfl); simp only [go_sem]) | ((with_reducible refine an ?_ ?_); focus exact Au))
  refine AWp.range' n [] [3, 8] (fun k vs L => vs = [] ∧ L = [(b6, .row 3 1 ((List.range n).map fun i => ai (if i < k then (i : Int) else 0)) n)]) (by omega) rfl rfl rfl ⟨rfl, ?_⟩ ?_ ?_
  · congr 4
    exact (List.eq_replicate_iff.2 ⟨by simp, fun x hx => by
      obtain ⟨p, _, rfl⟩ := List.mem_map.1 hx
      rw [if_neg (by omega)]⟩).symm
  · rintro k vs L hk - ⟨rfl, rfl⟩
    have hrl : ((List.range n).map fun i => ai (if i < k then (i : Int) else 0)).length = n := by simp
    have hg : ((List.range n).map fun i => ai (if i < k then (i : Int) else 0)).getD k .any = ai (if k < k then (k : Int) else 0) := by
      rw [List.getD_eq_getElem?_getD, List.getElem?_map, List.getElem?_range hk]; rfl
    have hst : ((List.range n).map fun i => ai (if i < k then (i : Int) else 0)).set k (ai k) = (List.range n).map fun i => ai (if i < k + 1 then (i : Int) else 0) := by
      rw [map_range_set n k]
      refine List.map_congr_left fun i _ => ?_
      by_cases e : i = k
      · subst e; rw [if_pos rfl, if_pos (by omega)]
      · rw [if_neg e]
        by_cases h : i < k
        · rw [if_pos h, if_pos (by omega)]
        · rw [if_neg h, if_neg (by omega)]
    simp only [go_sem]
    repeat (first | ((with_reducible refine AWp.ofC ?_ ?_); (focus exact rfl); simp only [go_sem, hrl, hg]) | ((with_reducible refine an ?_ ?_); focus exact Au))
    exact ⟨_, List.Sublist.refl _, by rw [← hst]⟩
  · rintro vs L - ⟨rfl, rfl⟩
    have hst : ((List.range n).map fun i => ai (if i < n then (i : Int) else 0)) = (idxL n).map ai := by
      unfold idxL
      rw [List.map_map]
      refine List.map_congr_left fun i hi => ?_
      rw [if_pos (List.mem_range.1 hi)]; rfl
    rw [hst]
    simp only [go_sem]
    repeat (first | ((with_reducible refine AWp.ofC ?_ ?_); (focus exact rfl); simp only [go_sem]) | ((with_reducible refine an ?_ ?_); focus exact Au))
    refine ret_view [true] ?_; simp only [go_sem]
    exact Vw.ofLs (if_pos rfl) (by simp [idxL])
theorem run_steps1 (ps : List Pr) (hs : Sm ps) (hv : validF ps = true) (r : List (List Int)) (i : Nat) (hi : i < r.length) (hc : isF ps r[i] = true) (b : List Int) (hb : b.length ≤ 1000000) (p : Nat) (hp : p < ps.length) :
    PC Go.Proofs.Tryz.prog 109 [ai (p : Nat), .rp 1 [aRs ps] 0 0, .rp 1 [aRows r] 0 0, .rp 1 [ai i] 0 0, .rp 1 [aInts b] 0 0] (ab (rdyF ps r[i] p && decide (b = stpC r[i] p))) := by
  have hg := getD_map (f := aInts) hi
  have hcl := (isF_iff.1 hc).1
  have hcb := isF_cb hs hc
  have hmay := run_may ps hs hv r[i] hc p
  rw [mayF_nat hcl (by omega)] at hmay
  have hne := run_next r[i] hcb.1 hcb.2 p (by omega)
  have heq := ints_equal b (stpC r[i] p) hb
  have haR : ∀ x : List (List Int), aRows x = .sl 1 (x.map aInts) := fun _ => rfl
  unfold aRs at hmay ⊢
  generalize r[i] = c at *
  refine PC.enter 24 [.tmp 6] [] Go.Proofs.Tryz.func109 rfl rfl rfl rfl rfl (by simp) (AWp.of ?_); simp only [go_sem]
  repeat (first | ((with_reducible refine AWp.ofC ?_ ?_); (focus exact rfl); simp only [go_sem, hg, haR]) | ((with_reducible refine an ?_ ?_); focus exact Au))
  refine AWp.seq ?_
  repeat (first | (with_reducible refine AWp.seq ?_) | (with_reducible refine AWp.block ?_))
  refine AWp.read mixed [0, 1, 2, 3, 4, 5, 6, 7, 8, 9, 10, 11, 12, 13, 14, 15, 16, 17] (by kernel_rfl) ?_; simp only [go_sem, hg]
  repeat ((with_reducible refine an ?_ ?_); focus exact As)
  refine GCall.use (ab (rdyF ps c p)) (fun _ => ⟨At, (hmay).val.use ⟨rfl, rfl⟩⟩) ?_; simp only [go_sem, hg]
  repeat ((with_reducible refine an ?_ ?_); focus exact As)
  refine GCall.use (aInts (stpC c p)) (fun _ => ⟨At, (hne).val.use ⟨rfl, rfl⟩⟩) ?_; simp only [go_sem]
  repeat ((with_reducible refine an ?_ ?_); focus exact As)
  refine GCall.use (ab (decide (b = stpC c p))) (fun _ => ⟨At, (heq).val.use ⟨rfl, rfl⟩⟩) ?_; simp only [go_sem]
  repeat (first | ((with_reducible refine AWp.ofC ?_ ?_); (focus exact rfl); simp only [go_sem]) | ((with_reducible refine an ?_ ?_); focus exact Au))
  refine ret_eq ?_; simp only [go_sem]
theorem idxL_find (n : Nat) (q : Nat → Bool) (P : Int → Bool) (h : ∀ i, i < n → P (i : Nat) = q i) : oI ((idxL n).findIdx? P) = oI ((List.range n).find? q) := by
  have hl : (idxL n).length = n := by simp [idxL]
  have hget : ∀ (i : Nat) (hi : i < (idxL n).length), (idxL n)[i] = (i : Int) := fun i hi => by simp [idxL]
  cases hf : (List.range n).find? q with
  | none =>
    have : (idxL n).findIdx? P = none := by
      rw [List.findIdx?_eq_none_iff]
      intro x hx
      obtain ⟨i, hi, rfl⟩ := List.getElem_of_mem hx
      rw [hget i hi, h i (by omega)]
      have := List.find?_eq_none.1 hf i (List.mem_range.2 (by omega))
      simpa using this
    rw [this]
  | some k =>
    rw [List.find?_range_eq_some] at hf
    obtain ⟨f1, f2, f3⟩ := hf
    have hk := List.mem_range.1 f2
    have : (idxL n).findIdx? P = some k := by
      rw [List.findIdx?_eq_some_iff_getElem]
      refine ⟨by omega, by rw [hget k (by omega), h k hk]; exact f1, fun j hj => ?_⟩
      rw [hget j (by omega), h j (by omega)]
      have := f3 j hj
      simpa using this
    rw [this]
theorem run_stepIx (ps : List Pr) (hn : ps.length ≤ 8) (c b : List Int) (caps : List AV) (hI : ∀ p : Nat, p < ps.length → PC Go.Proofs.Tryz.prog 109 (ai p :: caps) (ab (rdyF ps c p && decide (b = stpC c p)))) :
    PC Go.Proofs.Tryz.prog 107 [aInts (idxL ps.length), .clo 109 caps] (ai (oI (stpP ps c b))) := by
  have h := ints_indexFunc (idxL ps.length) (by unfold idxL; simp; omega) (.clo 109 caps) rfl (fun z => rdyF ps c z.toNat && decide (b = stpC c z.toNat)) (fun x hx => by
    unfold idxL at hx
    obtain ⟨i, hi, rfl⟩ := List.mem_map.1 hx
    exact PC.clo (args := [ai i]) (hI i (List.mem_range.1 hi)))
  have e := idxL_find ps.length (fun p => rdyF ps c p && decide (b = stpC c p)) (fun z => rdyF ps c z.toNat && decide (b = stpC c z.toNat)) (fun i _ => rfl)
  have e2 : oI ((List.range ps.length).find? fun p => rdyF ps c p && decide (b = stpC c p)) = oI (stpP ps c b) := rfl
  rw [← e2, ← e]
  generalize (fun z : Int => rdyF ps c z.toNat && decide (b = stpC c z.toNat)) = P at *
  cases hf : (idxL ps.length).findIdx? P with
  | none => rw [hf] at h; exact h
  | some i => rw [hf] at h; exact h
set_option maxHeartbeats 1000000 in
theorem run_steps (ps : List Pr) (hs : Sm ps) (hv : validF ps = true) (r : List (List Int)) (hl : r.length ≤ 1000000) (hx : ∀ x ∈ r, x.length ≤ 1000000) :
    PC Go.Proofs.Tryz.prog 78 [aRs ps, aRows r] (.tup [aInts (stpsR ps r), ab (stpsF ps r).isSome]) := by
  have hz := run_zero ps hv
  have hfu := run_full ps hs hv
  have haR : ∀ x : List (List Int), aRows x = .sl 1 (x.map aInts) := fun _ => rfl
  cases r with
  | nil =>
    have e1 : stpsR ps [] = [] := rfl
    have e2 : (stpsF ps []).isSome = false := rfl
    rw [e1, e2]
    have z0 : (((0 : Nat) : Int) = 0) = True := eq_true rfl
    unfold aRs
    refine PC.enter 58 [.tmp 4, .tmp 5] [2, 3, 7, 8, 54] Go.Proofs.Tryz.func78 rfl rfl rfl rfl rfl (by simp) (AWp.of ?_); simp only [go_sem]
    repeat (first | ((with_reducible refine AWp.ofC ?_ ?_); (focus exact rfl); simp only [go_sem]) | ((with_reducible refine an ?_ ?_); focus exact Au))
    refine AWp.seq (AWp.seq ?_)
    repeat (first | (with_reducible refine AWp.seq ?_) | (with_reducible refine AWp.block ?_))
    refine AWp.read mixed [0, 1, 2, 3, 4, 5, 6, 7, 8, 9, 10, 11, 12, 13, 14, 15, 16, 17, 18, 19, 20, 21, 22, 23] (by kernel_rfl) ?_; simp only [go_sem, List.getD_nil]
    repeat ((with_reducible refine an ?_ ?_); focus exact As)
    refine GCall.use (aInts []) (fun h => absurd rfl h) ?_
    simp only [go_sem]
    refine GCall.use (ab false) (fun h => absurd rfl h) ?_
    simp only [go_sem, List.getD_nil]
    repeat ((with_reducible refine an ?_ ?_); focus exact As)
    refine GCall.use (aInts []) (fun h => False.elim h) ?_
    simp only [go_sem]
    refine GCall.use (ab false) (fun h => False.elim h) ?_
    simp only [go_sem, z0]
    repeat (first | ((with_reducible refine AWp.ofC ?_ ?_); (focus exact rfl); simp only [go_sem]) | ((with_reducible refine an ?_ ?_); focus exact Au))
    refine ret_view [] ?_; simp only [go_sem]
    exact .mkTup (Vws.cons (.nil 1) (Vws.refl _))
  | cons a r =>
    have hal := hx a List.mem_cons_self
    obtain ⟨lst, hlst⟩ : ∃ lst, (a :: r)[r.length]'(by simp) = lst := ⟨_, rfl⟩
    have hll : lst.length ≤ 1000000 := hx lst (by rw [← hlst]; exact List.getElem_mem _)
    have hgl : (a :: r).getLast? = some lst := by
      rw [List.getLast?_eq_getElem?, ← hlst, List.getElem?_eq_getElem (by simp)]
      congr 1
    have hsF : stpsF ps (a :: r) = if a = zeroC ps ∧ lst = fullC ps then stpsG ps a r else none := by
      show (if a = zeroC ps ∧ (a :: r).getLast? = some (fullC ps) then stpsG ps a r else none) = _
      rw [hgl]
      congr 1
      exact propext ⟨fun h => ⟨h.1, Option.some.inj h.2⟩, fun h => ⟨h.1, congrArg some h.2⟩⟩
    have he1 := ints_equal a (zeroC ps) hal
    have he2 := ints_equal lst (fullC ps) hll
    have hR0 : ((a :: r).map aInts).getD 0 .any = aInts a := rfl
    have hRl : ((a :: r).map aInts).getD r.length .any = aInts lst := by
      rw [List.getD_eq_getElem?_getD, List.getElem?_map, List.getElem?_eq_getElem (by simp), hlst]; rfl
    have hRn : ((a :: r).map aInts).length = r.length + 1 := by rw [List.length_map, List.length_cons]
    have hRd : ((a :: r).map aInts).drop 1 = r.map aInts := rfl
    have hrl : r.length ≤ 1000000 := by rw [List.length_cons] at hl; omega
    have hix : (((r.length + 1 : Nat) : Int) - 1).toNat = r.length := by omega
    have hn0 : ¬ (((r.length + 1 : Nat) : Int) = 0) := by omega
    rw [haR]
    by_cases hc : a = zeroC ps ∧ lst = fullC ps
    · rw [if_pos hc] at hsF
      obtain ⟨rfl, rfl⟩ := hc
      rw [decide_eq_true rfl] at he1 he2
      have hI := fun (i : Nat) (hi : i < (zeroC ps :: r).length) hc b hb p hp => run_steps1 ps hs hv (zeroC ps :: r) i hi hc b hb p hp
      rw [haR] at hI
      have hin := run_indices ps.length (by have := (valid_len hv).2; omega)
      generalize hR : (zeroC ps :: r).map aInts = R at *
      unfold aRs at *
      refine PC.enter 58 [.tmp 4, .tmp 5] [2, 3, 7, 8, 54] Go.Proofs.Tryz.func78 rfl rfl rfl rfl rfl (by simp) (AWp.of ?_); simp only [go_sem]
      repeat (first | ((with_reducible refine AWp.ofC ?_ ?_); (focus exact rfl); simp only [go_sem]) | ((with_reducible refine an ?_ ?_); focus exact Au))
      refine AWp.seq (AWp.seq ?_)
      repeat (first | (with_reducible refine AWp.seq ?_) | (with_reducible refine AWp.block ?_))
      refine AWp.read mixed [0, 1, 2, 3, 4, 5, 6, 7, 8, 9, 10, 11, 12, 13, 14, 15, 16, 17, 18, 19, 20, 21, 22, 23] (by kernel_rfl) ?_; simp only [go_sem, hR0, hRn, hn0]
      repeat ((with_reducible refine an ?_ ?_); focus exact As)
      repeat ((with_reducible refine an ?_ ?_); focus exact As)
      refine GCall.use (aInts (zeroC ps)) (fun _ => ⟨At, (hz).val.use ⟨rfl, rfl⟩⟩) ?_; simp only [go_sem]
      repeat ((with_reducible refine an ?_ ?_); focus exact As)
      refine GCall.use (ab true) (fun _ => ⟨At, (he1).val.use ⟨rfl, rfl⟩⟩) ?_; simp only [go_sem, hRl, hRn, hix]
      repeat ((with_reducible refine an ?_ ?_); focus exact As)
      repeat ((with_reducible refine an ?_ ?_); focus exact As)
      refine GCall.use (aInts (fullC ps)) (fun _ => ⟨At, (hfu).val.use ⟨rfl, rfl⟩⟩) ?_; simp only [go_sem]
      repeat ((with_reducible refine an ?_ ?_); focus exact As)
      refine GCall.use (ab true) (fun _ => ⟨At, (he2).val.use ⟨rfl, rfl⟩⟩) ?_; simp only [go_sem]
      repeat (first | ((with_reducible refine AWp.ofC ?_ ?_); (focus exact rfl); simp only [go_sem, hRd]) | ((with_reducible refine an ?_ ?_); focus exact Au))
      refine AWp.range' r.length [6] [2, 3, 35, 36] (fun k vs L => ∃ (l : List Nat) (v : AV), vs = [v] ∧ l.length = k ∧ isF ps ((zeroC ps :: r).getD k []) = true ∧ stpsG ps (zeroC ps) r = (stpsG ps ((zeroC ps :: r).getD k []) (r.drop k)).map (l ++ ·) ∧ AppSt 3 1 (l.map fun (p : Nat) => ai p) v L) (by omega) rfl rfl rfl ⟨[], _, rfl, rfl, zeroC_is ps, ?_, .nil⟩ ?_ ?_
      · show stpsG ps (zeroC ps) r = (stpsG ps (zeroC ps) r).map ([] ++ ·)
        cases stpsG ps (zeroC ps) r <;> rfl
      · rintro k vs L hk - ⟨l, v, rfl, hlk, hck, hst, hA⟩
        have hgk := getD_map (f := aInts) hk
        have hgc : (zeroC ps :: r).getD k [] = (zeroC ps :: r)[k]'(by rw [List.length_cons]; omega) := by
          rw [List.getD_eq_getElem?_getD, List.getElem?_eq_getElem]; rfl
        have hgc2 : (zeroC ps :: r).getD (k + 1) [] = r[k] := by
          rw [List.getD_cons_succ, List.getD_eq_getElem?_getD, List.getElem?_eq_getElem hk]; rfl
        have hdr : r.drop k = r[k] :: r.drop (k + 1) := by rw [List.getElem_cons_drop]
        have hIk := hI k (by rw [List.length_cons]; omega) (by rw [← hgc]; exact hck) r[k] (hx _ (List.mem_cons_of_mem _ (List.getElem_mem hk)))
        rw [← hgc] at hIk
        rw [hdr] at hst
        rw [hgc2]
        generalize (zeroC ps :: r).getD k [] = c at *
        generalize r[k] = b at *
        have e1 : stpsG ps c (b :: r.drop (k + 1)) = match stpP ps c b with
          | none => none
          | some p => (stpsG ps b (r.drop (k + 1))).map (p :: ·) := rfl
        rw [e1] at hst
        have hidx := run_stepIx ps (valid_len hv).2 c b [.rp 1 [.rp 2 [.agg [.sl 3 (ps.map aPr), .sl 1 (aNeeds ps ps)]] 0 0] 0 0, .rp 1 [.sl 1 R] 0 0, .rp 1 [ai (k : Nat)] 0 0, .rp 1 [aInts b] 0 0] hIk
        have hnl := needs_len ps
        simp only [go_sem]
        cases hsp : stpP ps c b with
        | none =>
          rw [hsp] at hst hidx
          have hst : stpsG ps (zeroC ps) r = none := hst
          change PC _ _ _ (ai (-1)) at hidx
          have e2 : stpsR ps (zeroC ps :: r) = [] := by unfold stpsR; rw [hsF, hst]; rfl
          have e3 : (stpsF ps (zeroC ps :: r)).isSome = false := by rw [hsF, hst]; rfl
          rw [e2, e3]
          rcases hA.inv with ⟨e5, rfl, rfl⟩ | ⟨bo, cap, rfl, rfl⟩
          · repeat (first | ((with_reducible refine AWp.ofC ?_ ?_); (focus exact rfl); simp only [go_sem, hgk]) | ((with_reducible refine an ?_ ?_); focus exact Au))
            intro b7 b8 g8
            have n1 : ¬ b7 = b8 := by omega
            have n2 : ¬ b8 = b7 := by omega
            simp only [go_sem, n1]
            repeat (first | ((with_reducible refine AWp.ofC ?_ ?_); (focus exact rfl); simp only [go_sem, hnl]) | ((with_reducible refine an ?_ ?_); focus exact Au))
            repeat ((with_reducible refine an ?_ ?_); focus exact As)
            refine (hin).val.use ?_; simp only [go_sem]
            repeat (first | ((with_reducible refine AWp.ofC ?_ ?_); (focus exact rfl); simp only [go_sem, hnl, n1, n2]) | ((with_reducible refine an ?_ ?_); focus exact Au))
            repeat ((with_reducible refine an ?_ ?_); focus exact As)
            refine (hidx).val.use ?_; simp only [go_sem]
            repeat (first | ((with_reducible refine AWp.ofC ?_ ?_); (focus exact rfl); simp only [go_sem, Int.reduceLT]) | ((with_reducible refine an ?_ ?_); focus exact Au))
            refine ret_view [] ?_; simp only [go_sem]
            exact .mkTup (Vws.cons (.nil 1) (Vws.refl _))
          · repeat (first | ((with_reducible refine AWp.ofC ?_ ?_); (focus exact rfl); simp only [go_sem, hgk]) | ((with_reducible refine an ?_ ?_); focus exact Au))
            intro b7 g7 b8 g8 g9
            have n1 : ¬ b7 = b8 := by omega
            have n2 : ¬ b8 = b7 := by omega
            have n3 : ¬ bo = b8 := by omega
            have n4 : ¬ b8 = bo := by omega
            have n5 : ¬ bo = b7 := by omega
            have n6 : ¬ b7 = bo := by omega
            simp only [go_sem, n1, n4]
            repeat (first | ((with_reducible refine AWp.ofC ?_ ?_); (focus exact rfl); simp only [go_sem, hnl]) | ((with_reducible refine an ?_ ?_); focus exact Au))
            repeat ((with_reducible refine an ?_ ?_); focus exact As)
            refine (hin).val.use ?_; simp only [go_sem]
            repeat (first | ((with_reducible refine AWp.ofC ?_ ?_); (focus exact rfl); simp only [go_sem, hnl, n1, n2]) | ((with_reducible refine an ?_ ?_); focus exact Au))
            repeat ((with_reducible refine an ?_ ?_); focus exact As)
            refine (hidx).val.use ?_; simp only [go_sem]
            repeat (first | ((with_reducible refine AWp.ofC ?_ ?_); (focus exact rfl); simp only [go_sem, Int.reduceLT]) | ((with_reducible refine an ?_ ?_); focus exact Au))
            refine ret_view [] ?_; simp only [go_sem]
            exact .mkTup (Vws.cons (.nil 1) (Vws.refl _))
        | some p =>
          rw [hsp] at hst hidx
          obtain ⟨p1, p2, p3⟩ := (stpP_some (isF_iff.1 hck).1).1 hsp
          have hbF : isF ps b = true := by rw [p3]; exact rdy_is p2
          have hst : stpsG ps (zeroC ps) r = (stpsG ps b (r.drop (k + 1))).map ((l ++ [p]) ++ ·) := by
            rw [hst]
            cases stpsG ps b (r.drop (k + 1)) with
            | none => rfl
            | some S => simp
          change PC _ _ _ (ai (p : Int)) at hidx
          have hp0 : ¬ (p : Int) < 0 := by omega
          have hlm : ((l ++ [p]).map fun (p : Nat) => ai p) = (l.map fun (p : Nat) => ai p) ++ [ai p] := by rw [List.map_append]; rfl
          have hll2 : (l.map fun (p : Nat) => ai p).length = k := by rw [List.length_map]; exact hlk
          have hl1 : (l ++ [p]).length = k + 1 := by rw [List.length_append, hlk]; rfl
          rcases hA.inv with ⟨e5, rfl, rfl⟩ | ⟨bo, cap, rfl, rfl⟩
          · repeat (first | ((with_reducible refine AWp.ofC ?_ ?_); (focus exact rfl); simp only [go_sem, hgk]) | ((with_reducible refine an ?_ ?_); focus exact Au))
            intro b7 b8 g8
            have n1 : ¬ b7 = b8 := by omega
            have n2 : ¬ b8 = b7 := by omega
            simp only [go_sem, n1]
            repeat (first | ((with_reducible refine AWp.ofC ?_ ?_); (focus exact rfl); simp only [go_sem, hnl]) | ((with_reducible refine an ?_ ?_); focus exact Au))
            repeat ((with_reducible refine an ?_ ?_); focus exact As)
            refine (hin).val.use ?_; simp only [go_sem]
            repeat (first | ((with_reducible refine AWp.ofC ?_ ?_); (focus exact rfl); simp only [go_sem, hnl, n1, n2]) | ((with_reducible refine an ?_ ?_); focus exact Au))
            repeat ((with_reducible refine an ?_ ?_); focus exact As)
            refine (hidx).val.use ?_; simp only [go_sem]
            repeat (first | ((with_reducible refine AWp.ofC ?_ ?_); (focus exact rfl); simp only [go_sem, hp0]) | ((with_reducible refine an ?_ ?_); focus exact Au))
            intro b' cap' hc'
            refine ⟨_, List.Sublist.refl _, l ++ [p], _, rfl, hl1, hbF, hst, ?_⟩
            rw [hlm, e5]
            exact .row _ _ _
          · repeat (first | ((with_reducible refine AWp.ofC ?_ ?_); (focus exact rfl); simp only [go_sem, hgk]) | ((with_reducible refine an ?_ ?_); focus exact Au))
            intro b7 g7 b8 g8 g9
            have n1 : ¬ b7 = b8 := by omega
            have n2 : ¬ b8 = b7 := by omega
            have n3 : ¬ bo = b8 := by omega
            have n4 : ¬ b8 = bo := by omega
            have n5 : ¬ bo = b7 := by omega
            have n6 : ¬ b7 = bo := by omega
            simp only [go_sem, n1, n4]
            repeat (first | ((with_reducible refine AWp.ofC ?_ ?_); (focus exact rfl); simp only [go_sem, hnl]) | ((with_reducible refine an ?_ ?_); focus exact Au))
            repeat ((with_reducible refine an ?_ ?_); focus exact As)
            refine (hin).val.use ?_; simp only [go_sem]
            repeat (first | ((with_reducible refine AWp.ofC ?_ ?_); (focus exact rfl); simp only [go_sem, hnl, n1, n2]) | ((with_reducible refine an ?_ ?_); focus exact Au))
            repeat ((with_reducible refine an ?_ ?_); focus exact As)
            refine (hidx).val.use ?_; simp only [go_sem]
            repeat (first | ((with_reducible refine AWp.ofC ?_ ?_); (focus exact rfl); simp only [go_sem, hp0]) | ((with_reducible refine an ?_ ?_); focus exact Au))
            intro b' cap' hc'
            refine ⟨_, List.Sublist.refl _, l ++ [p], _, rfl, hl1, hbF, hst, ?_⟩
            rw [hlm]
            exact AppSt.snoc b' cap' _ (by rw [List.length_map])
      · rintro vs L - ⟨l, v, rfl, hlk, hck, hst, hA⟩
        have e1 : stpsG ps (zeroC ps) r = some l := by
          rw [hst, List.drop_length]
          show some (l ++ []) = some l
          rw [List.append_nil]
        have e2 : stpsR ps (zeroC ps :: r) = l.map fun (p : Nat) => (p : Int) := by unfold stpsR; rw [hsF, e1]; rfl
        have e3 : (stpsF ps (zeroC ps :: r)).isSome = true := by rw [hsF, e1]; rfl
        rw [e2, e3]
        have e4 : (l.map fun (p : Nat) => (p : Int)).map ai = l.map fun (p : Nat) => ai p := by rw [List.map_map]; rfl
        rcases hA.inv with ⟨e5, rfl, rfl⟩ | ⟨bo, cap, rfl, rfl⟩
        · have : l = [] := List.map_eq_nil_iff.1 e5
          subst this
          simp only [go_sem]
          repeat (first | ((with_reducible refine AWp.ofC ?_ ?_); (focus exact rfl); simp only [go_sem]) | ((with_reducible refine an ?_ ?_); focus exact Au))
          refine ret_view [] ?_; simp only [go_sem]
          exact .mkTup (Vws.cons (.nil 1) (Vws.refl _))
        · simp only [go_sem]
          repeat (first | ((with_reducible refine AWp.ofC ?_ ?_); (focus exact rfl); simp only [go_sem]) | ((with_reducible refine an ?_ ?_); focus exact Au))
          refine ret_view [true] ?_; simp only [go_sem]
          rw [e4]
          exact .mkTup (Vws.cons (Vw.ofLs (if_pos rfl) (by rw [List.length_map])) (Vws.refl _))
    · rw [if_neg hc] at hsF
      have e1 : stpsR ps (a :: r) = [] := by unfold stpsR; rw [hsF]; rfl
      have e2 : (stpsF ps (a :: r)).isSome = false := by rw [hsF]; rfl
      rw [e1, e2]
      generalize (a :: r).map aInts = R at *
      unfold aRs at *
      refine PC.enter 58 [.tmp 4, .tmp 5] [2, 3, 7, 8, 54] Go.Proofs.Tryz.func78 rfl rfl rfl rfl rfl (by simp) (AWp.of ?_); simp only [go_sem]
      repeat (first | ((with_reducible refine AWp.ofC ?_ ?_); (focus exact rfl); simp only [go_sem]) | ((with_reducible refine an ?_ ?_); focus exact Au))
      refine AWp.seq (AWp.seq ?_)
      repeat (first | (with_reducible refine AWp.seq ?_) | (with_reducible refine AWp.block ?_))
      refine AWp.read mixed [0, 1, 2, 3, 4, 5, 6, 7, 8, 9, 10, 11, 12, 13, 14, 15, 16, 17, 18, 19, 20, 21, 22, 23] (by kernel_rfl) ?_; simp only [go_sem, hR0, hRn, hn0]
      repeat ((with_reducible refine an ?_ ?_); focus exact As)
      repeat ((with_reducible refine an ?_ ?_); focus exact As)
      refine GCall.use (aInts (zeroC ps)) (fun _ => ⟨At, (hz).val.use ⟨rfl, rfl⟩⟩) ?_; simp only [go_sem]
      by_cases ha : a = zeroC ps
      · subst ha
        have hlf : ¬ lst = fullC ps := fun h => hc ⟨rfl, h⟩
        rw [decide_eq_true rfl] at he1
        rw [decide_eq_false hlf] at he2
        repeat ((with_reducible refine an ?_ ?_); focus exact As)
        refine GCall.use (ab true) (fun _ => ⟨At, (he1).val.use ⟨rfl, rfl⟩⟩) ?_; simp only [go_sem, hRl, hRn, hix]
        repeat ((with_reducible refine an ?_ ?_); focus exact As)
        repeat ((with_reducible refine an ?_ ?_); focus exact As)
        refine GCall.use (aInts (fullC ps)) (fun _ => ⟨At, (hfu).val.use ⟨rfl, rfl⟩⟩) ?_; simp only [go_sem]
        repeat ((with_reducible refine an ?_ ?_); focus exact As)
        refine GCall.use (ab false) (fun _ => ⟨At, (he2).val.use ⟨rfl, rfl⟩⟩) ?_; simp only [go_sem]
        repeat (first | ((with_reducible refine AWp.ofC ?_ ?_); (focus exact rfl); simp only [go_sem]) | ((with_reducible refine an ?_ ?_); focus exact Au))
        refine ret_view [] ?_; simp only [go_sem]
        exact .mkTup (Vws.cons (.nil 1) (Vws.refl _))
      · rw [decide_eq_false ha] at he1
        repeat ((with_reducible refine an ?_ ?_); focus exact As)
        refine GCall.use (ab false) (fun _ => ⟨At, (he1).val.use ⟨rfl, rfl⟩⟩) ?_; simp only [go_sem, hRl, hRn, hix]
        repeat ((with_reducible refine an ?_ ?_); focus exact As)
        refine GCall.use (aInts []) (fun h => False.elim h) ?_
        simp only [go_sem]
        refine GCall.use (ab false) (fun h => False.elim h) ?_
        simp only [go_sem]
        repeat (first | ((with_reducible refine AWp.ofC ?_ ?_); (focus exact rfl); simp only [go_sem]) | ((with_reducible refine an ?_ ?_); focus exact Au))
        refine ret_view [] ?_; simp only [go_sem]
        exact .mkTup (Vws.cons (.nil 1) (Vws.refl _))
end Go.AL
end
section
namespace Go.AL
open Go Go.RowKit
set_option maxRecDepth 4000
theorem run_Is (ps : List Pr) (hs : Sm ps) (r : List (List Int)) (hl : r.length ≤ 1000000) (hx : ∀ x ∈ r, x.length ≤ 1000000) : PC Go.Proofs.Tryz.prog 32 [aTr ps, aRows r] (ab (isR ps r)) := by
  have hva := trace_Valid ps hs
  unfold isR
  cases hv : validF ps with
  | false =>
    rw [hv] at hva
    refine PC.enter 18 [.tmp 4] [2] Go.Proofs.Tryz.func32 rfl rfl rfl rfl rfl (by simp) (AWp.of ?_); simp only [go_sem]
    repeat (first | ((with_reducible refine AWp.ofC ?_ ?_); (focus exact rfl); simp only [go_sem]) | ((with_reducible refine an ?_ ?_); focus exact Au))
    repeat ((with_reducible refine an ?_ ?_); focus exact As)
    refine (hva).val.use ?_; simp only [go_sem]
    repeat (first | ((with_reducible refine AWp.ofC ?_ ?_); (focus exact rfl); simp only [go_sem]) | ((with_reducible refine an ?_ ?_); focus exact Au))
    refine ret_eq ?_; simp only [go_sem]
  | true =>
    rw [hv] at hva
    have hop := run_open ps hs hv
    have hst := run_steps ps hs hv r hl hx
    rw [stpsF_run] at hst
    generalize stpsR ps r = S at *
    generalize isRunF ps r = b at *
    unfold aRs at hop hst
    refine PC.enter 18 [.tmp 4] [2] Go.Proofs.Tryz.func32 rfl rfl rfl rfl rfl (by simp) (AWp.of ?_); simp only [go_sem]
    repeat (first | ((with_reducible refine AWp.ofC ?_ ?_); (focus exact rfl); simp only [go_sem]) | ((with_reducible refine an ?_ ?_); focus exact Au))
    repeat ((with_reducible refine an ?_ ?_); focus exact As)
    refine (hva).val.use ?_; simp only [go_sem]
    repeat (first | ((with_reducible refine AWp.ofC ?_ ?_); (focus exact rfl); simp only [go_sem]) | ((with_reducible refine an ?_ ?_); focus exact Au))
    repeat ((with_reducible refine an ?_ ?_); focus exact As)
    refine (hop).val.use ?_; simp only [go_sem]
    repeat (first | ((with_reducible refine AWp.ofC ?_ ?_); (focus exact rfl); simp only [go_sem]) | ((with_reducible refine an ?_ ?_); focus exact Au))
    repeat ((with_reducible refine an ?_ ?_); focus exact As)
    refine (hst).val.use ?_; simp only [go_sem]
    repeat (first | ((with_reducible refine AWp.ofC ?_ ?_); (focus exact rfl); simp only [go_sem]) | ((with_reducible refine an ?_ ?_); focus exact Au))
    refine ret_eq ?_; simp only [go_sem]
theorem evtP_get : ∀ {r : List (List Int)} {l : List Nat} {k : Nat} (hk : k < l.length) (hr : k < r.length), (evtP r l)[k]? = some ((l[k] : Int), cAt r[k] l[k] + 1)
  | [], _, _, _, hr => by cases hr
  | _ :: _, [], _, hk, _ => by cases hk
  | a :: r, p :: l, 0, _, _ => rfl
  | a :: r, p :: l, k + 1, hk, hr => by
    show (evtP r l)[k]? = _
    exact evtP_get (by simpa using hk) (by simpa using hr)
theorem evtP_len : ∀ {r : List (List Int)} {l : List Nat}, l.length ≤ r.length → (evtP r l).length = l.length
  | [], [], _ => rfl
  | [], _ :: _, h => by simp at h
  | _ :: _, [], _ => rfl
  | a :: r, p :: l, h => by
    show (evtP r l).length + 1 = _
    rw [evtP_len (by simpa using h), List.length_cons]
theorem stps_get {ps : List Pr} : ∀ {r : List (List Int)} {a : List Int} {l : List Nat}, isF ps a = true → stpsG ps a r = some l → l.length = r.length ∧ ∀ (k : Nat) (hk : k < l.length), l[k] < ps.length ∧ isF ps ((a :: r).getD k []) = true
  | [], a, l, ha, h => by
    have : l = [] := (Option.some.inj h).symm
    subst this; exact ⟨rfl, fun k hk => by cases hk⟩
  | b :: r, a, l, ha, h => by
    have e : stpsG ps a (b :: r) = match stpP ps a b with
      | none => none
      | some p => (stpsG ps b r).map (p :: ·) := rfl
    rw [e] at h
    cases hp : stpP ps a b with
    | none => rw [hp] at h; cases h
    | some p =>
      rw [hp] at h
      simp only at h
      cases hs : stpsG ps b r with
      | none => rw [hs] at h; cases h
      | some l' =>
        rw [hs] at h
        have hl : l = p :: l' := (Option.some.inj h).symm
        subst hl
        obtain ⟨g1, g2, g3⟩ := (stpP_some (isF_iff.1 ha).1).1 hp
        have hb : isF ps b = true := by rw [g3]; exact rdy_is g2
        obtain ⟨i1, i2⟩ := stps_get hb hs
        refine ⟨by rw [List.length_cons, List.length_cons, i1], fun k hk => ?_⟩
        cases k with
        | zero => exact ⟨g1, ha⟩
        | succ k => exact i2 k (by simpa using hk)
theorem run_Events (ps : List Pr) (hs : Sm ps) (r : List (List Int)) (hl : r.length ≤ 1000000) (hx : ∀ x ∈ r, x.length ≤ 1000000) : PC Go.Proofs.Tryz.prog 33 [aTr ps, aRows r] (.tup [aEids (evnF ps r), ai (evnE ps r)]) := by
  have hva := trace_Valid ps hs
  have haR : ∀ x : List (List Int), aRows x = .sl 1 (x.map aInts) := fun _ => rfl
  unfold evnF evnE
  cases hv : validF ps with
  | false =>
    rw [hv] at hva
    refine PC.enter 45 [.tmp 4, .tmp 5] [2, 41] Go.Proofs.Tryz.func33 rfl rfl rfl rfl rfl (by simp) (AWp.of ?_); simp only [go_sem]
    repeat (first | ((with_reducible refine AWp.ofC ?_ ?_); (focus exact rfl); simp only [go_sem]) | ((with_reducible refine an ?_ ?_); focus exact Au))
    repeat ((with_reducible refine an ?_ ?_); focus exact As)
    refine (hva).val.use ?_; simp only [go_sem]
    repeat (first | ((with_reducible refine AWp.ofC ?_ ?_); (focus exact rfl); simp only [go_sem]) | ((with_reducible refine an ?_ ?_); focus exact Au))
    refine ret_view [] ?_; simp only [go_sem]
    exact .mkTup (Vws.cons (.nil 2) (Vws.refl _))
  | true =>
    rw [hv] at hva
    have hop := run_open ps hs hv
    have hst := run_steps ps hs hv r hl hx
    cases hr : isRunF ps r with
    | false =>
      rw [stpsF_run, hr] at hst
      generalize stpsR ps r = S at *
      unfold aRs at hop hst
      refine PC.enter 45 [.tmp 4, .tmp 5] [2, 41] Go.Proofs.Tryz.func33 rfl rfl rfl rfl rfl (by simp) (AWp.of ?_); simp only [go_sem]
      repeat (first | ((with_reducible refine AWp.ofC ?_ ?_); (focus exact rfl); simp only [go_sem]) | ((with_reducible refine an ?_ ?_); focus exact Au))
      repeat ((with_reducible refine an ?_ ?_); focus exact As)
      refine (hva).val.use ?_; simp only [go_sem]
      repeat (first | ((with_reducible refine AWp.ofC ?_ ?_); (focus exact rfl); simp only [go_sem]) | ((with_reducible refine an ?_ ?_); focus exact Au))
      repeat ((with_reducible refine an ?_ ?_); focus exact As)
      refine (hop).val.use ?_; simp only [go_sem]
      repeat (first | ((with_reducible refine AWp.ofC ?_ ?_); (focus exact rfl); simp only [go_sem]) | ((with_reducible refine an ?_ ?_); focus exact Au))
      repeat ((with_reducible refine an ?_ ?_); focus exact As)
      refine (hst).val.use ?_; simp only [go_sem]
      repeat (first | ((with_reducible refine AWp.ofC ?_ ?_); (focus exact rfl); simp only [go_sem]) | ((with_reducible refine an ?_ ?_); focus exact Au))
      refine ret_view [] ?_; simp only [go_sem]
      exact .mkTup (Vws.cons (.nil 2) (Vws.refl _))
    | true =>
      obtain ⟨R, rfl, hch, hgl⟩ := isrun_inv hr
      obtain ⟨l, hl0⟩ : ∃ l, stpsG ps (zeroC ps) R = some l := by
        have := stpsG_chn (r := R) (zeroC_is ps)
        rw [hch] at this
        exact Option.isSome_iff_exists.1 this
      have hsF : stpsF ps (zeroC ps :: R) = some l := by
        show (if zeroC ps = zeroC ps ∧ (zeroC ps :: R).getLast? = some (fullC ps) then stpsG ps (zeroC ps) R else none) = _
        rw [if_pos ⟨rfl, hgl⟩, hl0]
      obtain ⟨hev, _⟩ := evt_eq (zeroC_is ps) hl0
      obtain ⟨hll, hgt⟩ := stps_get (zeroC_is ps) hl0
      have hlen := evtP_len (r := zeroC ps :: R) (l := l) (by rw [List.length_cons]; omega)
      have e1 : stpsR ps (zeroC ps :: R) = l.map fun (p : Nat) => (p : Int) := by unfold stpsR; rw [hsF]; rfl
      rw [e1, hsF] at hst
      have hef : evtF (zeroC ps :: R) = evtP (zeroC ps :: R) l := hev.symm
      rw [if_pos rfl, if_pos rfl, if_pos rfl, hef]
      have hRl : R.length ≤ 1000000 := by rw [List.length_cons] at hl; omega
      have hml : ((l.map fun (p : Nat) => (p : Int)).map ai).length = l.length := by rw [List.length_map, List.length_map]
      rw [haR] at hst ⊢
      have hrn : (zeroC ps :: R).length = l.length + 1 := by rw [List.length_cons, hll]
      have hge : ∀ k (hk : k < l.length), (evtP (zeroC ps :: R) l)[k]? = some ((l[k] : Int), cAt ((zeroC ps :: R).getD k []) l[k] + 1) := fun k hk => by
        have hkr : k < (zeroC ps :: R).length := by omega
        rw [evtP_get hk hkr, List.getD_eq_getElem?_getD, List.getElem?_eq_getElem hkr]; rfl
      clear hev
      generalize hr2 : zeroC ps :: R = r at *
      unfold aRs at hop hst
      refine PC.enter 45 [.tmp 4, .tmp 5] [2, 41] Go.Proofs.Tryz.func33 rfl rfl rfl rfl rfl (by simp) (AWp.of ?_); simp only [go_sem]
      repeat (first | ((with_reducible refine AWp.ofC ?_ ?_); (focus exact rfl); simp only [go_sem]) | ((with_reducible refine an ?_ ?_); focus exact Au))
      repeat ((with_reducible refine an ?_ ?_); focus exact As)
      refine (hva).val.use ?_; simp only [go_sem]
      repeat (first | ((with_reducible refine AWp.ofC ?_ ?_); (focus exact rfl); simp only [go_sem]) | ((with_reducible refine an ?_ ?_); focus exact Au))
      repeat ((with_reducible refine an ?_ ?_); focus exact As)
      refine (hop).val.use ?_; simp only [go_sem]
      repeat (first | ((with_reducible refine AWp.ofC ?_ ?_); (focus exact rfl); simp only [go_sem]) | ((with_reducible refine an ?_ ?_); focus exact Au))
      repeat ((with_reducible refine an ?_ ?_); focus exact As)
      refine (hst).val.use ?_; simp only [go_sem]
      repeat (first | ((with_reducible refine AWp.ofC ?_ ?_); (focus exact rfl); simp only [go_sem, hml]) | ((with_reducible refine an ?_ ?_); focus exact Au))
      refine AWp.range' l.length [8] [1, 23, 24] (fun k vs L => ∃ v, vs = [v] ∧ AppSt 66 2 (((evtP r l).take k).map aEid) v L) (by omega) rfl rfl rfl ⟨_, rfl, by rw [List.take_zero]; exact .nil⟩ ?_ ?_
      · rintro k vs L hk - ⟨v, rfl, hA⟩
        have hkr : k < r.length := by omega
        obtain ⟨q1, q2⟩ := hgt k hk
        have hgc : r.getD k [] = r[k] := by rw [List.getD_eq_getElem?_getD, List.getElem?_eq_getElem hkr]; rfl
        rw [hgc] at q2
        have hcl := (isF_iff.1 q2).1
        have hcb := (isF_cb hs q2).2
        have g1 : ((l.map fun (p : Nat) => (p : Int)).map ai).getD k .any = ai (l[k] : Nat) := by
          rw [List.map_map]; exact getD_map (f := fun (p : Nat) => ai p) hk
        have g2 := getD_map (f := aInts) hkr
        have g3 := getD_map (f := ai) (l := r[k]) (k := l[k]) (by omega)
        have hb := hcb _ (List.getElem_mem (show l[k] < r[k].length by omega))
        have htk : ((evtP r l).take (k + 1)).map aEid = ((evtP r l).take k).map aEid ++ [.agg [ai (l[k] : Nat), ai (r[k][l[k]] + 1)]] := by
          have h1 := hge k hk
          rw [hgc] at h1
          rw [List.take_add_one, h1, List.map_append]
          show _ ++ [aEid ((l[k] : Int), cAt r[k] l[k] + 1)] = _
          rw [cAt_nat (show l[k] < r[k].length by omega)]
          rfl
        have hyl : (((evtP r l).take k).map aEid).length = k := by rw [List.length_map, List.length_take, hlen]; omega
        rw [htk]
        generalize ((evtP r l).take k).map aEid = ys at *
        generalize r[k][l[k]] = z at *
        generalize r[k] = c at *
        generalize l[k] = p at *
        rcases hA.inv with ⟨e5, rfl, rfl⟩ | ⟨bo, cap, rfl, rfl⟩
        · simp only [go_sem]
          repeat (first | ((with_reducible refine AWp.ofC ?_ ?_); (focus exact rfl); simp only [go_sem, g1, g2, g3]) | ((with_reducible refine an ?_ ?_); focus exact Au))
          intro b' cap' hc'
          exact ⟨_, List.Sublist.refl _, _, rfl, by rw [e5]; exact .row b' [_] cap'⟩
        · simp only [go_sem]
          repeat (first | ((with_reducible refine AWp.ofC ?_ ?_); (focus exact rfl); simp only [go_sem, g1, g2, g3]) | ((with_reducible refine an ?_ ?_); focus exact Au))
          intro b' cap' hc'
          exact ⟨_, List.Sublist.refl _, _, rfl, AppSt.snoc b' cap' _ rfl⟩
      · rintro vs L - ⟨v, rfl, hA⟩
        rw [show l.length = (evtP r l).length by rw [hlen], List.take_length] at hA
        generalize (evtP r l).map aEid = ys at *
        rcases hA.inv with ⟨e5, rfl, rfl⟩ | ⟨bo, cap, rfl, rfl⟩
        · rw [e5]
          simp only [go_sem]
          repeat (first | ((with_reducible refine AWp.ofC ?_ ?_); (focus exact rfl); simp only [go_sem]) | ((with_reducible refine an ?_ ?_); focus exact Au))
          refine ret_view [] ?_; simp only [go_sem]
          exact .mkTup (Vws.cons (.nil 2) (Vws.refl _))
        · simp only [go_sem]
          repeat (first | ((with_reducible refine AWp.ofC ?_ ?_); (focus exact rfl); simp only [go_sem]) | ((with_reducible refine an ?_ ?_); focus exact Au))
          refine ret_view [true] ?_; simp only [go_sem]
          exact .mkTup (Vws.cons (Vw.ofLs (if_pos rfl) rfl) (Vws.refl _))
set_option maxHeartbeats 1000000 in
theorem run_Of (ps : List Pr) (hs : Sm ps) (l : List Eid) (hl : l.length ≤ 1000000) : PC Go.Proofs.Tryz.prog 34 [aTr ps, aEids l] (.tup [aRows (ofVF ps l), ai (ofVE ps l)]) := by
  have hva := trace_Valid ps hs
  have haE : aEids l = .sl 2 (l.map aEid) := rfl
  rw [haE]
  cases hv : validF ps with
  | false =>
    rw [hv] at hva
    have e1 : ofVE ps l = 1 := by unfold ofVE; rw [hv]; rfl
    have e2 : ofVF ps l = [] := by unfold ofVF; rw [e1]; rfl
    rw [e1, e2]
    refine PC.enter 58 [.tmp 4, .tmp 5] [2, 10, 49] Go.Proofs.Tryz.func34 rfl rfl rfl rfl rfl (by simp) (AWp.of ?_); simp only [go_sem]
    repeat (first | ((with_reducible refine AWp.ofC ?_ ?_); (focus exact rfl); simp only [go_sem]) | ((with_reducible refine an ?_ ?_); focus exact Au))
    repeat ((with_reducible refine an ?_ ?_); focus exact As)
    refine (hva).val.use ?_; simp only [go_sem]
    repeat (first | ((with_reducible refine AWp.ofC ?_ ?_); (focus exact rfl); simp only [go_sem]) | ((with_reducible refine an ?_ ?_); focus exact Au))
    refine ret_view [] ?_; simp only [go_sem]
    exact .mkTup (Vws.cons (.nil 1) (Vws.refl _))
  | true =>
    rw [hv] at hva
    have hop := run_open ps hs hv
    have hz := run_zero ps hv
    have hfu := run_full ps hs hv
    have hmay := run_may ps hs hv
    have hl8 := (valid_len hv).2
    have hE : ∀ o, ofF ps l = o → ofVE ps l = (if o.isSome = true then 0 else 11) ∧ ofVF ps l = o.getD [] := fun o h => by
      have e1 : ofVE ps l = (if o.isSome = true then 0 else 11) := by unfold ofVE; rw [hv, if_pos rfl, h]
      refine ⟨e1, ?_⟩
      unfold ofVF
      rw [e1, h]
      cases o <;> rfl
    obtain ⟨r, hr⟩ : ∃ r, r = aRs ps := ⟨_, rfl⟩
    have hrf : fo r = (True, r) := by rw [hr]; rfl
    rw [← hr] at hop hz hfu hmay
    clear hr
    refine PC.enter 58 [.tmp 4, .tmp 5] [2, 10, 49] Go.Proofs.Tryz.func34 rfl rfl rfl rfl rfl (by simp) (AWp.of ?_); simp only [go_sem]
    repeat (first | ((with_reducible refine AWp.ofC ?_ ?_); (focus exact rfl); simp only [go_sem]) | ((with_reducible refine an ?_ ?_); focus exact Au))
    repeat ((with_reducible refine an ?_ ?_); focus exact As)
    refine (hva).val.use ?_; simp only [go_sem]
    repeat (first | ((with_reducible refine AWp.ofC ?_ ?_); (focus exact rfl); simp only [go_sem]) | ((with_reducible refine an ?_ ?_); focus exact Au))
    repeat ((with_reducible refine an ?_ ?_); focus exact As)
    refine (hop).val.use ?_; simp only [go_sem, hrf]
    repeat (first | ((with_reducible refine AWp.ofC ?_ ?_); (focus exact rfl); simp only [go_sem, hrf]) | ((with_reducible refine an ?_ ?_); focus exact Au))
    repeat ((with_reducible refine an ?_ ?_); focus exact As)
    refine (hz).val.use ?_; simp only [go_sem]
    repeat (first | ((with_reducible refine AWp.ofC ?_ ?_); (focus exact rfl); simp only [go_sem]) | ((with_reducible refine an ?_ ?_); focus exact Au))
    intro b19
    repeat (first | ((with_reducible refine AWp.ofC ?_ ?_); (focus exact rfl); simp only [go_sem]) | ((with_reducible refine an ?_ ?_); focus exact Au))
    refine AWp.range' l.length [7, 8] [6, 20, 21] (fun k vs L => ∃ (c : List Int) (O : List (List Int)) (v : AV), vs = [aInts c, v] ∧ isF ps c = true ∧ O.length = k + 1 ∧ O.getLast? = some c ∧ (ofR ps (zeroC ps) l).map (zeroC ps :: ·) = (ofR ps c (l.drop k)).map (O ++ ·) ∧ AppSt 42 1 (O.map aInts) v L) (by omega) rfl rfl rfl ⟨zeroC ps, [zeroC ps], _, rfl, zeroC_is ps, rfl, rfl, rfl, .row _ _ _⟩ ?_ ?_
    · rintro k vs L hk - ⟨c, O, v, rfl, hc, hOl, hOg, hst, hA⟩
      have hgk := getD_map (f := aEid) hk
      have hdr : l.drop k = l[k] :: l.drop (k + 1) := by rw [List.getElem_cons_drop]
      rw [hdr, ofR_cons] at hst
      have hcl := (isF_iff.1 hc).1
      have hcb := isF_cb hs hc
      have hOm : (O.map aInts).length = k + 1 := by rw [List.length_map, hOl]
      obtain ⟨bo, cap, rfl, rfl⟩ : ∃ bo cap, v = .ls bo 1 0 (O.map aInts).length cap ∧ L = [(bo, .row 42 1 (O.map aInts) cap)] := by
        rcases hA.inv with ⟨e1, _, _⟩ | h
        · rw [e1] at hOm; simp at hOm
        · exact h
      have hno : ∀ {o : Option (List (List Int))}, (ofR ps (zeroC ps) l).map (zeroC ps :: ·) = o → o = none → ofVE ps l = 11 ∧ ofVF ps l = [] := fun h1 h2 => by
        subst h2
        have h3 : ofR ps (zeroC ps) l = none := by
          cases hx : ofR ps (zeroC ps) l with
          | none => rfl
          | some R => rw [hx] at h1; cases h1
        exact hE none (by unfold ofF; rw [h3])
      generalize l[k] = x at *
      obtain ⟨x1, x2⟩ := x
      have hmp := hmay c hc x1
      change (l.map aEid).getD k .any = .agg [ai x1, ai x2] at hgk
      by_cases hmf : mayF ps c x1 = true
      · rw [hmf] at hmp
        unfold mayF at hmf
        rw [Bool.and_eq_true, decide_eq_true_eq] at hmf
        obtain ⟨⟨m1, m2⟩, m3⟩ := hmf
        obtain ⟨p, rfl⟩ : ∃ p : Nat, x1 = p := ⟨x1.toNat, by omega⟩
        have ep : ((p : Int)).toNat = p := by omega
        rw [ep] at m3
        have hp : p < c.length := by omega
        have g1 := getD_map (f := ai) hp
        have hb := hcb.2 _ (List.getElem_mem hp)
        have hne := run_next c hcb.1 hcb.2 p hp
        simp only [ep] at hst
        rw [cAt_nat hp] at hst
        by_cases hx2 : x2 = c[p] + 1
        · rw [if_pos ⟨⟨m1, m2⟩, m3, hx2⟩] at hst
          have hOa : (O ++ [stpC c p]).map aInts = O.map aInts ++ [.sl 1 ((stpC c p).map ai)] := by rw [List.map_append]; rfl
          have hst : (ofR ps (zeroC ps) l).map (zeroC ps :: ·) = (ofR ps (stpC c p) (l.drop (k + 1))).map ((O ++ [stpC c p]) ++ ·) := by
            rw [hst]
            cases ofR ps (stpC c p) (l.drop (k + 1)) with
            | none => rfl
            | some S => simp
          simp only [go_sem]
          repeat (first | ((with_reducible refine AWp.ofC ?_ ?_); (focus exact rfl); simp only [go_sem, hgk]) | ((with_reducible refine an ?_ ?_); focus exact Au))
          intro b10 g10
          repeat (first | ((with_reducible refine AWp.ofC ?_ ?_); (focus exact rfl); simp only [go_sem, hrf]) | ((with_reducible refine an ?_ ?_); focus exact Au))
          refine AWp.seq (AWp.seq ?_)
          repeat (first | (with_reducible refine AWp.seq ?_) | (with_reducible refine AWp.block ?_))
          refine AWp.read mixed [0, 1, 2, 3, 4, 5, 6, 7, 8, 9, 10, 11, 12, 13, 14, 15, 16] (by kernel_rfl) ?_; simp only [go_sem, hx2, hrf]
          repeat ((with_reducible refine an ?_ ?_); focus exact As)
          repeat ((with_reducible refine an ?_ ?_); focus exact As)
          refine GCall.use (ab true) (fun _ => ⟨At, (hmp).val.use ⟨rfl, rfl⟩⟩) ?_; simp only [go_sem, g1]
          repeat (first | ((with_reducible refine AWp.ofC ?_ ?_); (focus exact rfl); simp only [go_sem]) | ((with_reducible refine an ?_ ?_); focus exact Au))
          repeat ((with_reducible refine an ?_ ?_); focus exact As)
          refine (hne).val.use ?_; simp only [go_sem]
          repeat (first | ((with_reducible refine AWp.ofC ?_ ?_); (focus exact rfl); simp only [go_sem]) | ((with_reducible refine an ?_ ?_); focus exact Au))
          intro b' cap' hc'
          refine ⟨_, List.Sublist.refl _, stpC c p, O ++ [stpC c p], _, rfl, rdy_is m3, by rw [List.length_append, hOl]; rfl, by simp, hst, ?_⟩
          rw [hOa]
          exact AppSt.snoc b' cap' _ (by rw [List.length_map])
        · rw [if_neg (fun h => hx2 h.2.2)] at hst
          obtain ⟨e1, e2⟩ := hno hst rfl
          rw [e1, e2]
          simp only [go_sem]
          repeat (first | ((with_reducible refine AWp.ofC ?_ ?_); (focus exact rfl); simp only [go_sem, hgk]) | ((with_reducible refine an ?_ ?_); focus exact Au))
          intro b10 g10
          repeat (first | ((with_reducible refine AWp.ofC ?_ ?_); (focus exact rfl); simp only [go_sem, hrf]) | ((with_reducible refine an ?_ ?_); focus exact Au))
          refine AWp.seq (AWp.seq ?_)
          repeat (first | (with_reducible refine AWp.seq ?_) | (with_reducible refine AWp.block ?_))
          refine AWp.read mixed [0, 1, 2, 3, 4, 5, 6, 7, 8, 9, 10, 11, 12, 13, 14, 15, 16] (by kernel_rfl) ?_; simp only [go_sem, hrf]
          repeat ((with_reducible refine an ?_ ?_); focus exact As)
          repeat ((with_reducible refine an ?_ ?_); focus exact As)
          refine GCall.use (ab true) (fun _ => ⟨At, (hmp).val.use ⟨rfl, rfl⟩⟩) ?_; simp only [go_sem, g1, hx2]
          repeat (first | ((with_reducible refine AWp.ofC ?_ ?_); (focus exact rfl); simp only [go_sem]) | ((with_reducible refine an ?_ ?_); focus exact Au))
          refine ret_view [] ?_; simp only [go_sem]
          exact .mkTup (Vws.cons (.nil 1) (Vws.refl _))
      · have hmf : mayF ps c x1 = false := by simpa using hmf
        rw [hmf] at hmp
        unfold mayF at hmf
        rw [if_neg] at hst
        · obtain ⟨e1, e2⟩ := hno hst rfl
          rw [e1, e2]
          have hgx : (∃ z, (c.map ai).getD x1.toNat .any = ai z) ∨ (c.map ai).getD x1.toNat .any = .any := by
            by_cases h : x1.toNat < c.length
            · exact .inl ⟨_, getD_map h⟩
            · exact .inr (by rw [List.getD_eq_getElem?_getD, List.getElem?_eq_none (by rw [List.length_map]; omega)]; rfl)
          rcases hgx with ⟨z, g1⟩ | g1
          · simp only [go_sem]
            repeat (first | ((with_reducible refine AWp.ofC ?_ ?_); (focus exact rfl); simp only [go_sem, hgk]) | ((with_reducible refine an ?_ ?_); focus exact Au))
            intro b10 g10
            repeat (first | ((with_reducible refine AWp.ofC ?_ ?_); (focus exact rfl); simp only [go_sem, hrf]) | ((with_reducible refine an ?_ ?_); focus exact Au))
            refine AWp.seq (AWp.seq ?_)
            repeat (first | (with_reducible refine AWp.seq ?_) | (with_reducible refine AWp.block ?_))
            refine AWp.read mixed [0, 1, 2, 3, 4, 5, 6, 7, 8, 9, 10, 11, 12, 13, 14, 15, 16] (by kernel_rfl) ?_; simp only [go_sem, hrf]
            repeat ((with_reducible refine an ?_ ?_); focus exact As)
            repeat ((with_reducible refine an ?_ ?_); focus exact As)
            refine GCall.use (ab false) (fun _ => ⟨At, (hmp).val.use ⟨rfl, rfl⟩⟩) ?_; simp only [go_sem, g1]
            repeat (first | ((with_reducible refine AWp.ofC ?_ ?_); (focus exact rfl); simp only [go_sem]) | ((with_reducible refine an ?_ ?_); focus exact Au))
            refine ret_view [] ?_; simp only [go_sem]
            exact .mkTup (Vws.cons (.nil 1) (Vws.refl _))
          · simp only [go_sem]
            repeat (first | ((with_reducible refine AWp.ofC ?_ ?_); (focus exact rfl); simp only [go_sem, hgk]) | ((with_reducible refine an ?_ ?_); focus exact Au))
            intro b10 g10
            repeat (first | ((with_reducible refine AWp.ofC ?_ ?_); (focus exact rfl); simp only [go_sem, hrf]) | ((with_reducible refine an ?_ ?_); focus exact Au))
            refine AWp.seq (AWp.seq ?_)
            repeat (first | (with_reducible refine AWp.seq ?_) | (with_reducible refine AWp.block ?_))
            refine AWp.read mixed [0, 1, 2, 3, 4, 5, 6, 7, 8, 9, 10, 11, 12, 13, 14, 15, 16] (by kernel_rfl) ?_; simp only [go_sem, hrf]
            repeat ((with_reducible refine an ?_ ?_); focus exact As)
            repeat ((with_reducible refine an ?_ ?_); focus exact As)
            refine GCall.use (ab false) (fun _ => ⟨At, (hmp).val.use ⟨rfl, rfl⟩⟩) ?_; simp only [go_sem, g1]
            repeat (first | ((with_reducible refine AWp.ofC ?_ ?_); (focus exact rfl); simp only [go_sem]) | ((with_reducible refine an ?_ ?_); focus exact Au))
            refine ret_view [] ?_; simp only [go_sem]
            exact .mkTup (Vws.cons (.nil 1) (Vws.refl _))
        · rintro ⟨⟨h1, h2⟩, h3, _⟩
          rw [decide_eq_true ⟨h1, by simpa using h2⟩, Bool.true_and] at hmf
          rw [hmf] at h3; cases h3
    · rintro vs L - ⟨c, O, v, rfl, hc, hOl, hOg, hst, hA⟩
      have e0 : ofR ps c (l.drop l.length) = some [] := by rw [List.drop_length]; rfl
      rw [e0] at hst
      have hcl := (isF_iff.1 hc).1
      have heq := ints_equal c (fullC ps) (by omega)
      obtain ⟨R, hR, hRO⟩ : ∃ R, ofR ps (zeroC ps) l = some R ∧ zeroC ps :: R = O := by
        cases hx : ofR ps (zeroC ps) l with
        | none => rw [hx] at hst; cases hst
        | some R => rw [hx] at hst; exact ⟨R, rfl, by simpa using Option.some.inj hst⟩
      have hoF : ofF ps l = if c = fullC ps then some O else none := by
        unfold ofF
        rw [hR]
        simp only
        rw [hRO, hOg]
        congr 1
        exact propext ⟨fun h => Option.some.inj h, fun h => congrArg some h⟩
      have hOm : (O.map aInts).length = l.length + 1 := by rw [List.length_map, hOl]
      obtain ⟨bo, cap, rfl, rfl⟩ : ∃ bo cap, v = .ls bo 1 0 (O.map aInts).length cap ∧ L = [(bo, .row 42 1 (O.map aInts) cap)] := by
        rcases hA.inv with ⟨e1, _, _⟩ | h
        · rw [e1] at hOm; simp at hOm
        · exact h
      simp only [go_sem]
      by_cases hcf : c = fullC ps
      · rw [if_pos hcf] at hoF
        rw [decide_eq_true hcf] at heq
        obtain ⟨e1, e2⟩ := hE _ hoF
        rw [e1, e2]
        repeat (first | ((with_reducible refine AWp.ofC ?_ ?_); (focus exact rfl); simp only [go_sem, hrf]) | ((with_reducible refine an ?_ ?_); focus exact Au))
        repeat ((with_reducible refine an ?_ ?_); focus exact As)
        refine (hfu).val.use ?_; simp only [go_sem]
        repeat (first | ((with_reducible refine AWp.ofC ?_ ?_); (focus exact rfl); simp only [go_sem, hrf]) | ((with_reducible refine an ?_ ?_); focus exact Au))
        repeat ((with_reducible refine an ?_ ?_); focus exact As)
        refine (heq).val.use ?_; simp only [go_sem]
        repeat (first | ((with_reducible refine AWp.ofC ?_ ?_); (focus exact rfl); simp only [go_sem]) | ((with_reducible refine an ?_ ?_); focus exact Au))
        refine ret_view [true] ?_; simp only [go_sem]
        exact .mkTup (Vws.cons (Vw.ofLs (if_pos rfl) (by rw [List.length_map]; rfl)) (Vws.refl _))
      · rw [if_neg hcf] at hoF
        rw [decide_eq_false hcf] at heq
        obtain ⟨e1, e2⟩ := hE _ hoF
        rw [e1, e2]
        repeat (first | ((with_reducible refine AWp.ofC ?_ ?_); (focus exact rfl); simp only [go_sem, hrf]) | ((with_reducible refine an ?_ ?_); focus exact Au))
        repeat ((with_reducible refine an ?_ ?_); focus exact As)
        refine (hfu).val.use ?_; simp only [go_sem]
        repeat (first | ((with_reducible refine AWp.ofC ?_ ?_); (focus exact rfl); simp only [go_sem, hrf]) | ((with_reducible refine an ?_ ?_); focus exact Au))
        repeat ((with_reducible refine an ?_ ?_); focus exact As)
        refine (heq).val.use ?_; simp only [go_sem]
        repeat (first | ((with_reducible refine AWp.ofC ?_ ?_); (focus exact rfl); simp only [go_sem]) | ((with_reducible refine an ?_ ?_); focus exact Au))
        refine ret_view [] ?_; simp only [go_sem]
        exact .mkTup (Vws.cons (.nil 1) (Vws.refl _))
end Go.AL
end
