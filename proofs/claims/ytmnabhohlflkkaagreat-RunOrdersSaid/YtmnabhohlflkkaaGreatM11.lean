/- Texts of this claim's proof: WQj. No condition. -/
import Derived.Test.YtmnabhohlflkkaaGreatM10
section
/- The package run: First, Through, and the steps of a list of cuts. No condition. -/
namespace Go.AL
open Go Go.RowKit
set_option maxRecDepth 4000
noncomputable def frsF (ps : List Pr) : List (List Int) := if validF ps = true then wlkF ps (fun _ => true) else []
noncomputable def vldE (ps : List Pr) : Int := if validF ps = true then 0 else 1
theorem run_Through1 (c d : List Int) (hc : c.length ≤ 1000000) (hd : d.length ≤ 1000000) : PC Go.Proofs.Tryz.prog 71 [aInts d, .rp 1 [aInts c] 0 0] (ab (leqF d c || leqF c d)) := by
  have h1 := cut_Leq d c hd
  have h2 := cut_Leq c d hc
  refine PC.enter 12 [.tmp 3] [] Go.Proofs.Tryz.func71 rfl rfl rfl rfl rfl (by simp) (AWp.of ?_); simp only [go_sem]
  repeat (first | ((with_reducible refine AWp.ofC ?_ ?_); (focus exact rfl); simp only [go_sem]) | ((with_reducible refine an ?_ ?_); focus exact Au))
  repeat ((with_reducible refine an ?_ ?_); focus exact As)
  refine (h1).val.use ?_; simp only [go_sem]
  repeat (first | ((with_reducible refine AWp.ofC ?_ ?_); (focus exact rfl); simp only [go_sem]) | ((with_reducible refine an ?_ ?_); focus exact Au))
  repeat ((with_reducible refine an ?_ ?_); focus exact As)
  refine GCall.use (ab (leqF c d)) (fun _ => ⟨At, (h2).val.use ⟨rfl, rfl⟩⟩) ?_; simp only [go_sem]
  repeat (first | ((with_reducible refine AWp.ofC ?_ ?_); (focus exact rfl); simp only [go_sem]) | ((with_reducible refine an ?_ ?_); focus exact Au))
  refine ret_eq ?_; simp only [go_sem]
noncomputable def thrE (ps : List Pr) (c : List Int) : Int := if validF ps = true then (if isF ps c = true then 0 else 18) else 1
noncomputable def thrF (ps : List Pr) (c : List Int) : List (List Int) := if thrE ps c = 0 then wlkF ps (fun d => leqF d c || leqF c d) else []
theorem run_Through (ps : List Pr) (hs : Sm ps) (c : List Int) : PC Go.Proofs.Tryz.prog 24 [aTr ps, aInts c] (.tup [aRows (thrF ps c), ai (thrE ps c)]) := by
  have hva := trace_Valid ps hs
  unfold thrF thrE
  cases hv : validF ps with
  | false =>
    rw [hv] at hva
    refine PC.enter 19 [.tmp 4, .tmp 5] [2, 3] Go.Proofs.Tryz.func24 rfl rfl rfl rfl rfl (by simp) (AWp.of ?_); simp only [go_sem]
    repeat (first | ((with_reducible refine AWp.ofC ?_ ?_); (focus exact rfl); simp only [go_sem]) | ((with_reducible refine an ?_ ?_); focus exact Au))
    repeat ((with_reducible refine an ?_ ?_); focus exact As)
    refine (hva).val.use ?_; simp only [go_sem]
    repeat (first | ((with_reducible refine AWp.ofC ?_ ?_); (focus exact rfl); simp only [go_sem]) | ((with_reducible refine an ?_ ?_); focus exact Au))
    refine ret_view [] ?_; simp only [go_sem]
    exact .mkTup (Vws.cons (.nil 1) (Vws.refl _))
  | true =>
    rw [hv] at hva
    have hco := cut_Consistent ps hs c
    have hgi := isF_given hv (c := c)
    have hde : decide (givenF ps [c] [] = 0) = isF ps c := by
      cases h : isF ps c with
      | true => exact decide_eq_true (hgi.2 h)
      | false => exact decide_eq_false fun e => by rw [hgi.1 e] at h; cases h
    rw [hde] at hco
    cases hc : isF ps c with
    | false =>
      rw [hc] at hco
      refine PC.enter 19 [.tmp 4, .tmp 5] [2, 3] Go.Proofs.Tryz.func24 rfl rfl rfl rfl rfl (by simp) (AWp.of ?_); simp only [go_sem]
      repeat (first | ((with_reducible refine AWp.ofC ?_ ?_); (focus exact rfl); simp only [go_sem]) | ((with_reducible refine an ?_ ?_); focus exact Au))
      repeat ((with_reducible refine an ?_ ?_); focus exact As)
      refine (hva).val.use ?_; simp only [go_sem]
      repeat (first | ((with_reducible refine AWp.ofC ?_ ?_); (focus exact rfl); simp only [go_sem]) | ((with_reducible refine an ?_ ?_); focus exact Au))
      repeat ((with_reducible refine an ?_ ?_); focus exact As)
      refine (hco).val.use ?_; simp only [go_sem]
      repeat (first | ((with_reducible refine AWp.ofC ?_ ?_); (focus exact rfl); simp only [go_sem]) | ((with_reducible refine an ?_ ?_); focus exact Au))
      refine ret_view [] ?_; simp only [go_sem]
      exact .mkTup (Vws.cons (.nil 1) (Vws.refl _))
    | true =>
      rw [hc] at hco
      have hcb := (isF_cb hs hc).1
      have hop := run_open ps hs hv
      have hwk := run_walk ps hs hv (.clo 71 [.rp 1 [aInts c] 0 0]) rfl (fun d => leqF d c || leqF c d) fun d hd => (run_Through1 c d hcb (isF_cb hs hd).1).clo
      unfold aRs at hop hwk
      rw [if_pos rfl, if_pos rfl, if_pos rfl]
      generalize wlkF ps (fun d => leqF d c || leqF c d) = W at *
      refine PC.enter 19 [.tmp 4, .tmp 5] [2, 3] Go.Proofs.Tryz.func24 rfl rfl rfl rfl rfl (by simp) (AWp.of ?_); simp only [go_sem]
      repeat (first | ((with_reducible refine AWp.ofC ?_ ?_); (focus exact rfl); simp only [go_sem]) | ((with_reducible refine an ?_ ?_); focus exact Au))
      repeat ((with_reducible refine an ?_ ?_); focus exact As)
      refine (hva).val.use ?_; simp only [go_sem]
      repeat (first | ((with_reducible refine AWp.ofC ?_ ?_); (focus exact rfl); simp only [go_sem]) | ((with_reducible refine an ?_ ?_); focus exact Au))
      repeat ((with_reducible refine an ?_ ?_); focus exact As)
      refine (hco).val.use ?_; simp only [go_sem]
      repeat (first | ((with_reducible refine AWp.ofC ?_ ?_); (focus exact rfl); simp only [go_sem]) | ((with_reducible refine an ?_ ?_); focus exact Au))
      repeat ((with_reducible refine an ?_ ?_); focus exact As)
      refine (hop).val.use ?_; simp only [go_sem]
      repeat (first | ((with_reducible refine AWp.ofC ?_ ?_); (focus exact rfl); simp only [go_sem]) | ((with_reducible refine an ?_ ?_); focus exact Au))
      repeat ((with_reducible refine an ?_ ?_); focus exact As)
      refine (hwk).val.use ?_; simp only [go_sem]
      repeat (first | ((with_reducible refine AWp.ofC ?_ ?_); (focus exact rfl); simp only [go_sem]) | ((with_reducible refine an ?_ ?_); focus exact Au))
      refine ret_eq ?_; simp only [go_sem]
def idxL (n : Nat) : List Int := (List.range n).map fun (i : Nat) => (i : Int)
theorem run_indices (n : Nat) (hn : n ≤ 1000000) : PC Go.Proofs.Tryz.prog 108 [ai (n : Nat)] (aInts (idxL n)) := by
  refine PC.enter 18 [.tmp 2] [] Go.Proofs.Tryz.func108 rfl rfl rfl rfl rfl (by simp) (AWp.of ?_); simp only [go_sem]
  repeat (first | ((with_reducible refine AWp.ofC ?_ ?_); (focus exact rfl); simp only [go_sem]) | ((with_reducible refine an ?_ ?_); focus exact Au))
  repeat ((with_reducible refine an ?_ ?_); focus exact As)
  intro b6
  repeat (first | ((with_reducible refine AWp.ofC ?_ ?_); (focus exact rfl); simp only [go_sem]) | ((with_reducible refine an ?_ ?_); focus exact Au))
  refine AWp.range' n [] [3, 8] (fun k vs L => vs = [] ∧ L = [(b6, .row 3 1 ((List.range n).map fun i => ai (if i < k then (i : Int) else 0)) n)]) (by omega) rfl rfl rfl ⟨rfl, ?_⟩ ?_ ?_
  · congr 4
    exact (List.eq_replicate_iff.2 ⟨by simp, fun x hx => by
      obtain ⟨p, _, rfl⟩ := List.mem_map.1 hx
      rw [if_neg (by omega)]⟩).symm
  · rintro k vs L hk - ⟨rfl, rfl⟩
    have hrl : ((List.range n).map fun i => ai (if i < k then (i : Int) else 0)).length = n := by simp
    have hg : ((List.range n).map fun i => ai (if i < k then (i : Int) else 0)).getD k .any = ai (if k < k then (k : Int) else 0) := by
      rw [List.getD_eq_getElem?_getD, List.getElem?_map, List.getElem?_range hk]; rfl
    have hst : ((List.range n).map fun i => ai (if i < k then (i : Int) else 0)).set k (ai k) = (List.range n).map fun i => ai (if i < k + 1 then (i : Int) else 0) := by
      rw [map_range_set n k]
      refine List.map_congr_left fun i _ => ?_
      by_cases e : i = k
      · subst e; rw [if_pos rfl, if_pos (by omega)]
      · rw [if_neg e]
        by_cases h : i < k
        · rw [if_pos h, if_pos (by omega)]
        · rw [if_neg h, if_neg (by omega)]
    simp only [go_sem]
    repeat (first | ((with_reducible refine AWp.ofC ?_ ?_); (focus exact rfl); simp only [go_sem, hrl, hg]) | ((with_reducible refine an ?_ ?_); focus exact Au))
    exact ⟨_, List.Sublist.refl _, by rw [← hst]⟩
  · rintro vs L - ⟨rfl, rfl⟩
    have hst : ((List.range n).map fun i => ai (if i < n then (i : Int) else 0)) = (idxL n).map ai := by
      unfold idxL
      rw [List.map_map]
      refine List.map_congr_left fun i hi => ?_
      rw [if_pos (List.mem_range.1 hi)]; rfl
    rw [hst]
    simp only [go_sem]
    repeat (first | ((with_reducible refine AWp.ofC ?_ ?_); (focus exact rfl); simp only [go_sem]) | ((with_reducible refine an ?_ ?_); focus exact Au))
    refine ret_view [true] ?_; simp only [go_sem]
    exact Vw.ofLs (if_pos rfl) (by simp [idxL])
theorem run_steps1 (ps : List Pr) (hs : Sm ps) (hv : validF ps = true) (r : List (List Int)) (i : Nat) (hi : i < r.length) (hc : isF ps r[i] = true) (b : List Int) (hb : b.length ≤ 1000000) (p : Nat) (hp : p < ps.length) :
    PC Go.Proofs.Tryz.prog 109 [ai (p : Nat), .rp 1 [aRs ps] 0 0, .rp 1 [aRows r] 0 0, .rp 1 [ai i] 0 0, .rp 1 [aInts b] 0 0] (ab (rdyF ps r[i] p && decide (b = stpC r[i] p))) := by
  have hg := getD_map (f := aInts) hi
  have hcl := (isF_iff.1 hc).1
  have hcb := isF_cb hs hc
  have hmay := run_may ps hs hv r[i] hc p
  rw [mayF_nat hcl (by omega)] at hmay
  have hne := run_next r[i] hcb.1 hcb.2 p (by omega)
  have heq := ints_equal b (stpC r[i] p) hb
  have haR : ∀ x : List (List Int), aRows x = .sl 1 (x.map aInts) := fun _ => rfl
  unfold aRs at hmay ⊢
  generalize r[i] = c at *
  refine PC.enter 24 [.tmp 6] [] Go.Proofs.Tryz.func109 rfl rfl rfl rfl rfl (by simp) (AWp.of ?_); simp only [go_sem]
  repeat (first | ((with_reducible refine AWp.ofC ?_ ?_); (focus exact rfl); simp only [go_sem, hg, haR]) | ((with_reducible refine an ?_ ?_); focus exact Au))
  refine AWp.seq ?_
  repeat (first | (with_reducible refine AWp.seq ?_) | (with_reducible refine AWp.block ?_))
  refine AWp.read mixed [0, 1, 2, 3, 4, 5, 6, 7, 8, 9, 10, 11, 12, 13, 14, 15, 16, 17] (by kernel_rfl) ?_; simp only [go_sem, hg]
  repeat ((with_reducible refine an ?_ ?_); focus exact As)
  refine GCall.use (ab (rdyF ps c p)) (fun _ => ⟨At, (hmay).val.use ⟨rfl, rfl⟩⟩) ?_; simp only [go_sem, hg]
  repeat ((with_reducible refine an ?_ ?_); focus exact As)
  refine GCall.use (aInts (stpC c p)) (fun _ => ⟨At, (hne).val.use ⟨rfl, rfl⟩⟩) ?_; simp only [go_sem]
  repeat ((with_reducible refine an ?_ ?_); focus exact As)
  refine GCall.use (ab (decide (b = stpC c p))) (fun _ => ⟨At, (heq).val.use ⟨rfl, rfl⟩⟩) ?_; simp only [go_sem]
  repeat (first | ((with_reducible refine AWp.ofC ?_ ?_); (focus exact rfl); simp only [go_sem]) | ((with_reducible refine an ?_ ?_); focus exact Au))
  refine ret_eq ?_; simp only [go_sem]
def oI : Option Nat → Int
  | some i => i
  | none => -1
theorem idxL_find (n : Nat) (q : Nat → Bool) (P : Int → Bool) (h : ∀ i, i < n → P (i : Nat) = q i) : oI ((idxL n).findIdx? P) = oI ((List.range n).find? q) := by
  have hl : (idxL n).length = n := by simp [idxL]
  have hget : ∀ (i : Nat) (hi : i < (idxL n).length), (idxL n)[i] = (i : Int) := fun i hi => by simp [idxL]
  cases hf : (List.range n).find? q with
  | none =>
    have : (idxL n).findIdx? P = none := by
      rw [List.findIdx?_eq_none_iff]
      intro x hx
      obtain ⟨i, hi, rfl⟩ := List.getElem_of_mem hx
      rw [hget i hi, h i (by omega)]
      have := List.find?_eq_none.1 hf i (List.mem_range.2 (by omega))
      simpa using this
    rw [this]
  | some k =>
    rw [List.find?_range_eq_some] at hf
    obtain ⟨f1, f2, f3⟩ := hf
    have hk := List.mem_range.1 f2
    have : (idxL n).findIdx? P = some k := by
      rw [List.findIdx?_eq_some_iff_getElem]
      refine ⟨by omega, by rw [hget k (by omega), h k hk]; exact f1, fun j hj => ?_⟩
      rw [hget j (by omega), h j (by omega)]
      have := f3 j hj
      simpa using this
    rw [this]
theorem run_stepIx (ps : List Pr) (hn : ps.length ≤ 8) (c b : List Int) (caps : List AV) (hI : ∀ p : Nat, p < ps.length → PC Go.Proofs.Tryz.prog 109 (ai p :: caps) (ab (rdyF ps c p && decide (b = stpC c p)))) :
    PC Go.Proofs.Tryz.prog 107 [aInts (idxL ps.length), .clo 109 caps] (ai (oI (stpP ps c b))) := by
  have h := ints_indexFunc (idxL ps.length) (by unfold idxL; simp; omega) (.clo 109 caps) rfl (fun z => rdyF ps c z.toNat && decide (b = stpC c z.toNat)) (fun x hx => by
    unfold idxL at hx
    obtain ⟨i, hi, rfl⟩ := List.mem_map.1 hx
    exact PC.clo (args := [ai i]) (hI i (List.mem_range.1 hi)))
  have e := idxL_find ps.length (fun p => rdyF ps c p && decide (b = stpC c p)) (fun z => rdyF ps c z.toNat && decide (b = stpC c z.toNat)) (fun i _ => rfl)
  have e2 : oI ((List.range ps.length).find? fun p => rdyF ps c p && decide (b = stpC c p)) = oI (stpP ps c b) := rfl
  rw [← e2, ← e]
  generalize (fun z : Int => rdyF ps c z.toNat && decide (b = stpC c z.toNat)) = P at *
  cases hf : (idxL ps.length).findIdx? P with
  | none => rw [hf] at h; exact h
  | some i => rw [hf] at h; exact h
def stpsR (ps : List Pr) (r : List (List Int)) : List Int := ((stpsF ps r).getD []).map fun (p : Nat) => (p : Int)
set_option maxHeartbeats 1000000 in
theorem run_steps (ps : List Pr) (hs : Sm ps) (hv : validF ps = true) (r : List (List Int)) (hl : r.length ≤ 1000000) (hx : ∀ x ∈ r, x.length ≤ 1000000) :
    PC Go.Proofs.Tryz.prog 78 [aRs ps, aRows r] (.tup [aInts (stpsR ps r), ab (stpsF ps r).isSome]) := by
  have hz := run_zero ps hv
  have hfu := run_full ps hs hv
  have haR : ∀ x : List (List Int), aRows x = .sl 1 (x.map aInts) := fun _ => rfl
  cases r with
  | nil =>
    have e1 : stpsR ps [] = [] := rfl
    have e2 : (stpsF ps []).isSome = false := rfl
    rw [e1, e2]
    have z0 : (((0 : Nat) : Int) = 0) = True := eq_true rfl
    unfold aRs
    refine PC.enter 58 [.tmp 4, .tmp 5] [2, 3, 7, 8, 54] Go.Proofs.Tryz.func78 rfl rfl rfl rfl rfl (by simp) (AWp.of ?_); simp only [go_sem]
    repeat (first | ((with_reducible refine AWp.ofC ?_ ?_); (focus exact rfl); simp only [go_sem]) | ((with_reducible refine an ?_ ?_); focus exact Au))
    refine AWp.seq (AWp.seq ?_)
    repeat (first | (with_reducible refine AWp.seq ?_) | (with_reducible refine AWp.block ?_))
    refine AWp.read mixed [0, 1, 2, 3, 4, 5, 6, 7, 8, 9, 10, 11, 12, 13, 14, 15, 16, 17, 18, 19, 20, 21, 22, 23] (by kernel_rfl) ?_; simp only [go_sem, List.getD_nil]
    repeat ((with_reducible refine an ?_ ?_); focus exact As)
    refine GCall.use (aInts []) (fun h => absurd rfl h) ?_
    simp only [go_sem]
    refine GCall.use (ab false) (fun h => absurd rfl h) ?_
    simp only [go_sem, List.getD_nil]
    repeat ((with_reducible refine an ?_ ?_); focus exact As)
    refine GCall.use (aInts []) (fun h => False.elim h) ?_
    simp only [go_sem]
    refine GCall.use (ab false) (fun h => False.elim h) ?_
    simp only [go_sem, z0]
    repeat (first | ((with_reducible refine AWp.ofC ?_ ?_); (focus exact rfl); simp only [go_sem]) | ((with_reducible refine an ?_ ?_); focus exact Au))
    refine ret_view [] ?_; simp only [go_sem]
    exact .mkTup (Vws.cons (.nil 1) (Vws.refl _))
  | cons a r =>
    have hal := hx a List.mem_cons_self
    obtain ⟨lst, hlst⟩ : ∃ lst, (a :: r)[r.length]'(by simp) = lst := ⟨_, rfl⟩
    have hll : lst.length ≤ 1000000 := hx lst (by rw [← hlst]; exact List.getElem_mem _)
    have hgl : (a :: r).getLast? = some lst := by
      rw [List.getLast?_eq_getElem?, ← hlst, List.getElem?_eq_getElem (by simp)]
      congr 1
    have hsF : stpsF ps (a :: r) = if a = zeroC ps ∧ lst = fullC ps then stpsG ps a r else none := by
      show (if a = zeroC ps ∧ (a :: r).getLast? = some (fullC ps) then stpsG ps a r else none) = _
      rw [hgl]
      congr 1
      exact propext ⟨fun h => ⟨h.1, Option.some.inj h.2⟩, fun h => ⟨h.1, congrArg some h.2⟩⟩
    have he1 := ints_equal a (zeroC ps) hal
    have he2 := ints_equal lst (fullC ps) hll
    have hR0 : ((a :: r).map aInts).getD 0 .any = aInts a := rfl
    have hRl : ((a :: r).map aInts).getD r.length .any = aInts lst := by
      rw [List.getD_eq_getElem?_getD, List.getElem?_map, List.getElem?_eq_getElem (by simp), hlst]; rfl
    have hRn : ((a :: r).map aInts).length = r.length + 1 := by rw [List.length_map, List.length_cons]
    have hRd : ((a :: r).map aInts).drop 1 = r.map aInts := rfl
    have hrl : r.length ≤ 1000000 := by rw [List.length_cons] at hl; omega
    have hix : (((r.length + 1 : Nat) : Int) - 1).toNat = r.length := by omega
    have hn0 : ¬ (((r.length + 1 : Nat) : Int) = 0) := by omega
    rw [haR]
    by_cases hc : a = zeroC ps ∧ lst = fullC ps
    · rw [if_pos hc] at hsF
      obtain ⟨rfl, rfl⟩ := hc
      rw [decide_eq_true rfl] at he1 he2
      have hI := fun (i : Nat) (hi : i < (zeroC ps :: r).length) hc b hb p hp => run_steps1 ps hs hv (zeroC ps :: r) i hi hc b hb p hp
      rw [haR] at hI
      have hin := run_indices ps.length (by have := (valid_len hv).2; omega)
      generalize hR : (zeroC ps :: r).map aInts = R at *
      unfold aRs at *
      refine PC.enter 58 [.tmp 4, .tmp 5] [2, 3, 7, 8, 54] Go.Proofs.Tryz.func78 rfl rfl rfl rfl rfl (by simp) (AWp.of ?_); simp only [go_sem]
      repeat (first | ((with_reducible refine AWp.ofC ?_ ?_); (focus exact rfl); simp only [go_sem]) | ((with_reducible refine an ?_ ?_); focus exact Au))
      refine AWp.seq (AWp.seq ?_)
      repeat (first | (with_reducible refine AWp.seq ?_) | (with_reducible refine AWp.block ?_))
      refine AWp.read mixed [0, 1, 2, 3, 4, 5, 6, 7, 8, 9, 10, 11, 12, 13, 14, 15, 16, 17, 18, 19, 20, 21, 22, 23] (by kernel_rfl) ?_; simp only [go_sem, hR0, hRn, hn0]
      repeat ((with_reducible refine an ?_ ?_); focus exact As)
      repeat ((with_reducible refine an ?_ ?_); focus exact As)
      refine GCall.use (aInts (zeroC ps)) (fun _ => ⟨At, (hz).val.use ⟨rfl, rfl⟩⟩) ?_; simp only [go_sem]
      repeat ((with_reducible refine an ?_ ?_); focus exact As)
      refine GCall.use (ab true) (fun _ => ⟨At, (he1).val.use ⟨rfl, rfl⟩⟩) ?_; simp only [go_sem, hRl, hRn, hix]
      repeat ((with_reducible refine an ?_ ?_); focus exact As)
      repeat ((with_reducible refine an ?_ ?_); focus exact As)
      refine GCall.use (aInts (fullC ps)) (fun _ => ⟨At, (hfu).val.use ⟨rfl, rfl⟩⟩) ?_; simp only [go_sem]
      repeat ((with_reducible refine an ?_ ?_); focus exact As)
      refine GCall.use (ab true) (fun _ => ⟨At, (he2).val.use ⟨rfl, rfl⟩⟩) ?_; simp only [go_sem]
      repeat (first | ((with_reducible refine AWp.ofC ?_ ?_); (focus exact rfl); simp only [go_sem, hRd]) | ((with_reducible refine an ?_ ?_); focus exact Au))
      refine AWp.range' r.length [6] [2, 3, 35, 36] (fun k vs L => ∃ (l : List Nat) (v : AV), vs = [v] ∧ l.length = k ∧ isF ps ((zeroC ps :: r).getD k []) = true ∧ stpsG ps (zeroC ps) r = (stpsG ps ((zeroC ps :: r).getD k []) (r.drop k)).map (l ++ ·) ∧ AppSt 3 1 (l.map fun (p : Nat) => ai p) v L) (by omega) rfl rfl rfl ⟨[], _, rfl, rfl, zeroC_is ps, ?_, .nil⟩ ?_ ?_
      · show stpsG ps (zeroC ps) r = (stpsG ps (zeroC ps) r).map ([] ++ ·)
        cases stpsG ps (zeroC ps) r <;> rfl
      · rintro k vs L hk - ⟨l, v, rfl, hlk, hck, hst, hA⟩
        have hgk := getD_map (f := aInts) hk
        have hgc : (zeroC ps :: r).getD k [] = (zeroC ps :: r)[k]'(by rw [List.length_cons]; omega) := by
          rw [List.getD_eq_getElem?_getD, List.getElem?_eq_getElem]; rfl
        have hgc2 : (zeroC ps :: r).getD (k + 1) [] = r[k] := by
          rw [List.getD_cons_succ, List.getD_eq_getElem?_getD, List.getElem?_eq_getElem hk]; rfl
        have hdr : r.drop k = r[k] :: r.drop (k + 1) := by rw [List.getElem_cons_drop]
        have hIk := hI k (by rw [List.length_cons]; omega) (by rw [← hgc]; exact hck) r[k] (hx _ (List.mem_cons_of_mem _ (List.getElem_mem hk)))
        rw [← hgc] at hIk
        rw [hdr] at hst
        rw [hgc2]
        generalize (zeroC ps :: r).getD k [] = c at *
        generalize r[k] = b at *
        have e1 : stpsG ps c (b :: r.drop (k + 1)) = match stpP ps c b with
          | none => none
          | some p => (stpsG ps b (r.drop (k + 1))).map (p :: ·) := rfl
        rw [e1] at hst
        have hidx := run_stepIx ps (valid_len hv).2 c b [.rp 1 [.rp 2 [.agg [.sl 3 (ps.map aPr), .sl 1 (aNeeds ps ps)]] 0 0] 0 0, .rp 1 [.sl 1 R] 0 0, .rp 1 [ai (k : Nat)] 0 0, .rp 1 [aInts b] 0 0] hIk
        have hnl := needs_len ps
        simp only [go_sem]
        cases hsp : stpP ps c b with
        | none =>
          rw [hsp] at hst hidx
          have hst : stpsG ps (zeroC ps) r = none := hst
          change PC _ _ _ (ai (-1)) at hidx
          have e2 : stpsR ps (zeroC ps :: r) = [] := by unfold stpsR; rw [hsF, hst]; rfl
          have e3 : (stpsF ps (zeroC ps :: r)).isSome = false := by rw [hsF, hst]; rfl
          rw [e2, e3]
          rcases hA.inv with ⟨e5, rfl, rfl⟩ | ⟨bo, cap, rfl, rfl⟩
          · repeat (first | ((with_reducible refine AWp.ofC ?_ ?_); (focus exact rfl); simp only [go_sem, hgk]) | ((with_reducible refine an ?_ ?_); focus exact Au))
            intro b7 b8 g8
            have n1 : ¬ b7 = b8 := by omega
            have n2 : ¬ b8 = b7 := by omega
            simp only [go_sem, n1]
            repeat (first | ((with_reducible refine AWp.ofC ?_ ?_); (focus exact rfl); simp only [go_sem, hnl]) | ((with_reducible refine an ?_ ?_); focus exact Au))
            repeat ((with_reducible refine an ?_ ?_); focus exact As)
            refine (hin).val.use ?_; simp only [go_sem]
            repeat (first | ((with_reducible refine AWp.ofC ?_ ?_); (focus exact rfl); simp only [go_sem, hnl, n1, n2]) | ((with_reducible refine an ?_ ?_); focus exact Au))
            repeat ((with_reducible refine an ?_ ?_); focus exact As)
            refine (hidx).val.use ?_; simp only [go_sem]
            repeat (first | ((with_reducible refine AWp.ofC ?_ ?_); (focus exact rfl); simp only [go_sem, Int.reduceLT]) | ((with_reducible refine an ?_ ?_); focus exact Au))
            refine ret_view [] ?_; simp only [go_sem]
            exact .mkTup (Vws.cons (.nil 1) (Vws.refl _))
          · repeat (first | ((with_reducible refine AWp.ofC ?_ ?_); (focus exact rfl); simp only [go_sem, hgk]) | ((with_reducible refine an ?_ ?_); focus exact Au))
            intro b7 g7 b8 g8 g9
            have n1 : ¬ b7 = b8 := by omega
            have n2 : ¬ b8 = b7 := by omega
            have n3 : ¬ bo = b8 := by omega
            have n4 : ¬ b8 = bo := by omega
            have n5 : ¬ bo = b7 := by omega
            have n6 : ¬ b7 = bo := by omega
            simp only [go_sem, n1, n4]
            repeat (first | ((with_reducible refine AWp.ofC ?_ ?_); (focus exact rfl); simp only [go_sem, hnl]) | ((with_reducible refine an ?_ ?_); focus exact Au))
            repeat ((with_reducible refine an ?_ ?_); focus exact As)
            refine (hin).val.use ?_; simp only [go_sem]
            repeat (first | ((with_reducible refine AWp.ofC ?_ ?_); (focus exact rfl); simp only [go_sem, hnl, n1, n2]) | ((with_reducible refine an ?_ ?_); focus exact Au))
            repeat ((with_reducible refine an ?_ ?_); focus exact As)
            refine (hidx).val.use ?_; simp only [go_sem]
            repeat (first | ((with_reducible refine AWp.ofC ?_ ?_); (focus exact rfl); simp only [go_sem, Int.reduceLT]) | ((with_reducible refine an ?_ ?_); focus exact Au))
            refine ret_view [] ?_; simp only [go_sem]
            exact .mkTup (Vws.cons (.nil 1) (Vws.refl _))
        | some p =>
          rw [hsp] at hst hidx
          obtain ⟨p1, p2, p3⟩ := (stpP_some (isF_iff.1 hck).1).1 hsp
          have hbF : isF ps b = true := by rw [p3]; exact rdy_is p2
          have hst : stpsG ps (zeroC ps) r = (stpsG ps b (r.drop (k + 1))).map ((l ++ [p]) ++ ·) := by
            rw [hst]
            cases stpsG ps b (r.drop (k + 1)) with
            | none => rfl
            | some S => simp
          change PC _ _ _ (ai (p : Int)) at hidx
          have hp0 : ¬ (p : Int) < 0 := by omega
          have hlm : ((l ++ [p]).map fun (p : Nat) => ai p) = (l.map fun (p : Nat) => ai p) ++ [ai p] := by rw [List.map_append]; rfl
          have hll2 : (l.map fun (p : Nat) => ai p).length = k := by rw [List.length_map]; exact hlk
          have hl1 : (l ++ [p]).length = k + 1 := by rw [List.length_append, hlk]; rfl
          rcases hA.inv with ⟨e5, rfl, rfl⟩ | ⟨bo, cap, rfl, rfl⟩
          · repeat (first | ((with_reducible refine AWp.ofC ?_ ?_); (focus exact rfl); simp only [go_sem, hgk]) | ((with_reducible refine an ?_ ?_); focus exact Au))
            intro b7 b8 g8
            have n1 : ¬ b7 = b8 := by omega
            have n2 : ¬ b8 = b7 := by omega
            simp only [go_sem, n1]
            repeat (first | ((with_reducible refine AWp.ofC ?_ ?_); (focus exact rfl); simp only [go_sem, hnl]) | ((with_reducible refine an ?_ ?_); focus exact Au))
            repeat ((with_reducible refine an ?_ ?_); focus exact As)
            refine (hin).val.use ?_; simp only [go_sem]
            repeat (first | ((with_reducible refine AWp.ofC ?_ ?_); (focus exact rfl); simp only [go_sem, hnl, n1, n2]) | ((with_reducible refine an ?_ ?_); focus exact Au))
            repeat ((with_reducible refine an ?_ ?_); focus exact As)
            refine (hidx).val.use ?_; simp only [go_sem]
            repeat (first | ((with_reducible refine AWp.ofC ?_ ?_); (focus exact rfl); simp only [go_sem, hp0]) | ((with_reducible refine an ?_ ?_); focus exact Au))
            intro b' cap' hc'
            refine ⟨_, List.Sublist.refl _, l ++ [p], _, rfl, hl1, hbF, hst, ?_⟩
            rw [hlm, e5]
            exact .row _ _ _
          · repeat (first | ((with_reducible refine AWp.ofC ?_ ?_); (focus exact rfl); simp only [go_sem, hgk]) | ((with_reducible refine an ?_ ?_); focus exact Au))
            intro b7 g7 b8 g8 g9
            have n1 : ¬ b7 = b8 := by omega
            have n2 : ¬ b8 = b7 := by omega
            have n3 : ¬ bo = b8 := by omega
            have n4 : ¬ b8 = bo := by omega
            have n5 : ¬ bo = b7 := by omega
            have n6 : ¬ b7 = bo := by omega
            simp only [go_sem, n1, n4]
            repeat (first | ((with_reducible refine AWp.ofC ?_ ?_); (focus exact rfl); simp only [go_sem, hnl]) | ((with_reducible refine an ?_ ?_); focus exact Au))
            repeat ((with_reducible refine an ?_ ?_); focus exact As)
            refine (hin).val.use ?_; simp only [go_sem]
            repeat (first | ((with_reducible refine AWp.ofC ?_ ?_); (focus exact rfl); simp only [go_sem, hnl, n1, n2]) | ((with_reducible refine an ?_ ?_); focus exact Au))
            repeat ((with_reducible refine an ?_ ?_); focus exact As)
            refine (hidx).val.use ?_; simp only [go_sem]
            repeat (first | ((with_reducible refine AWp.ofC ?_ ?_); (focus exact rfl); simp only [go_sem, hp0]) | ((with_reducible refine an ?_ ?_); focus exact Au))
            intro b' cap' hc'
            refine ⟨_, List.Sublist.refl _, l ++ [p], _, rfl, hl1, hbF, hst, ?_⟩
            rw [hlm]
            exact AppSt.snoc b' cap' _ (by rw [List.length_map])
      · rintro vs L - ⟨l, v, rfl, hlk, hck, hst, hA⟩
        have e1 : stpsG ps (zeroC ps) r = some l := by
          rw [hst, List.drop_length]
          show some (l ++ []) = some l
          rw [List.append_nil]
        have e2 : stpsR ps (zeroC ps :: r) = l.map fun (p : Nat) => (p : Int) := by unfold stpsR; rw [hsF, e1]; rfl
        have e3 : (stpsF ps (zeroC ps :: r)).isSome = true := by rw [hsF, e1]; rfl
        rw [e2, e3]
        have e4 : (l.map fun (p : Nat) => (p : Int)).map ai = l.map fun (p : Nat) => ai p := by rw [List.map_map]; rfl
        rcases hA.inv with ⟨e5, rfl, rfl⟩ | ⟨bo, cap, rfl, rfl⟩
        · have : l = [] := List.map_eq_nil_iff.1 e5
          subst this
          simp only [go_sem]
          repeat (first | ((with_reducible refine AWp.ofC ?_ ?_); (focus exact rfl); simp only [go_sem]) | ((with_reducible refine an ?_ ?_); focus exact Au))
          refine ret_view [] ?_; simp only [go_sem]
          exact .mkTup (Vws.cons (.nil 1) (Vws.refl _))
        · simp only [go_sem]
          repeat (first | ((with_reducible refine AWp.ofC ?_ ?_); (focus exact rfl); simp only [go_sem]) | ((with_reducible refine an ?_ ?_); focus exact Au))
          refine ret_view [true] ?_; simp only [go_sem]
          rw [e4]
          exact .mkTup (Vws.cons (Vw.ofLs (if_pos rfl) (by rw [List.length_map])) (Vws.refl _))
    · rw [if_neg hc] at hsF
      have e1 : stpsR ps (a :: r) = [] := by unfold stpsR; rw [hsF]; rfl
      have e2 : (stpsF ps (a :: r)).isSome = false := by rw [hsF]; rfl
      rw [e1, e2]
      generalize (a :: r).map aInts = R at *
      unfold aRs at *
      refine PC.enter 58 [.tmp 4, .tmp 5] [2, 3, 7, 8, 54] Go.Proofs.Tryz.func78 rfl rfl rfl rfl rfl (by simp) (AWp.of ?_); simp only [go_sem]
      repeat (first | ((with_reducible refine AWp.ofC ?_ ?_); (focus exact rfl); simp only [go_sem]) | ((with_reducible refine an ?_ ?_); focus exact Au))
      refine AWp.seq (AWp.seq ?_)
      repeat (first | (with_reducible refine AWp.seq ?_) | (with_reducible refine AWp.block ?_))
      refine AWp.read mixed [0, 1, 2, 3, 4, 5, 6, 7, 8, 9, 10, 11, 12, 13, 14, 15, 16, 17, 18, 19, 20, 21, 22, 23] (by kernel_rfl) ?_; simp only [go_sem, hR0, hRn, hn0]
      repeat ((with_reducible refine an ?_ ?_); focus exact As)
      repeat ((with_reducible refine an ?_ ?_); focus exact As)
      refine GCall.use (aInts (zeroC ps)) (fun _ => ⟨At, (hz).val.use ⟨rfl, rfl⟩⟩) ?_; simp only [go_sem]
      by_cases ha : a = zeroC ps
      · subst ha
        have hlf : ¬ lst = fullC ps := fun h => hc ⟨rfl, h⟩
        rw [decide_eq_true rfl] at he1
        rw [decide_eq_false hlf] at he2
        repeat ((with_reducible refine an ?_ ?_); focus exact As)
        refine GCall.use (ab true) (fun _ => ⟨At, (he1).val.use ⟨rfl, rfl⟩⟩) ?_; simp only [go_sem, hRl, hRn, hix]
        repeat ((with_reducible refine an ?_ ?_); focus exact As)
        repeat ((with_reducible refine an ?_ ?_); focus exact As)
        refine GCall.use (aInts (fullC ps)) (fun _ => ⟨At, (hfu).val.use ⟨rfl, rfl⟩⟩) ?_; simp only [go_sem]
        repeat ((with_reducible refine an ?_ ?_); focus exact As)
        refine GCall.use (ab false) (fun _ => ⟨At, (he2).val.use ⟨rfl, rfl⟩⟩) ?_; simp only [go_sem]
        repeat (first | ((with_reducible refine AWp.ofC ?_ ?_); (focus exact rfl); simp only [go_sem]) | ((with_reducible refine an ?_ ?_); focus exact Au))
        refine ret_view [] ?_; simp only [go_sem]
        exact .mkTup (Vws.cons (.nil 1) (Vws.refl _))
      · rw [decide_eq_false ha] at he1
        repeat ((with_reducible refine an ?_ ?_); focus exact As)
        refine GCall.use (ab false) (fun _ => ⟨At, (he1).val.use ⟨rfl, rfl⟩⟩) ?_; simp only [go_sem, hRl, hRn, hix]
        repeat ((with_reducible refine an ?_ ?_); focus exact As)
        refine GCall.use (aInts []) (fun h => False.elim h) ?_
        simp only [go_sem]
        refine GCall.use (ab false) (fun h => False.elim h) ?_
        simp only [go_sem]
        repeat (first | ((with_reducible refine AWp.ofC ?_ ?_); (focus exact rfl); simp only [go_sem]) | ((with_reducible refine an ?_ ?_); focus exact Au))
        refine ret_view [] ?_; simp only [go_sem]
        exact .mkTup (Vws.cons (.nil 1) (Vws.refl _))
end Go.AL
end
